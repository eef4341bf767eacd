/- IrFormat returns true and changes nothing, for arguments of bulk at most 1048576 (the card of the second form; conditions: those of the given row). Names are shortened by a program, for the claim's bound. -/
import Derived.Test.YtmpmgmmcaghacaaGreatDoorCards
import Derived.Test.YtmpmgmmcaghacaaGreatDoorTie
import Derived.WalkKit
import Derived.ProofKit
import Derived.OpenShut
import Derived.Deep.DeepHandedRow
import Derived.Deep.DeepWitnessRowRef
import Derived.Test.YtmpmgmmcaghacaaGreatDoorQ08
set_option linter.unusedVariables false
set_option linter.unusedSimpArgs false
open Int (ofNat)
set_option maxRecDepth 100000
set_option maxHeartbeats 4000000
namespace Go.Proofs.YtmpmgmmcaghacaaGreatDoor
open Go.Tp
noncomputable abbrev cP:=Tryz.f11.ntmps
noncomputable abbrev cK:=Tryz.f39.ntmps
noncomputable def ya:Hints:=⟨bV,KU,bi,rowsOf bi 11⟩
def loS (A:List ac):Heap:=[(.loc 5,.cells A),(.loc 4,.cells (cC 0 0 nl nl))]
def aaY (l:List ak) (K:Int) (c:List ac):ab:=⟨[(4,.ptr (.loc 4) 0),(3,.ptr (.loc 3) 0),(0,cq)],[(.loc 4,.cells (cC 0 0 nl nl)),(.loc 3,.cells c)],cW l K,1⟩
def aaX (l:List ak) (K:Int) (c:List ac):ab:=⟨[(5,.ptr (.loc 5) 0),(4,.ptr (.loc 4) 0),(3,.ptr (.loc 3) 0),(0,cq)],[(.loc 5,.cells c),(.loc 4,.cells (cC 0 0 nl nl)),(.loc 3,.cells c)],cW l K,1⟩
def aaW (l:List ak) (K:Int) (c A:List ac) (R:List ac):ab:=⟨[(5,.ptr (.loc 5) 0),(4,.ptr (.loc 4) 0),(3,.ptr (.loc 3) 0),(0,cq)],[(.loc 5,.cells A),(.loc 4,.cells (cC 0 0 nl nl)),(.loc 3,.cells c)],QX l K R,2⟩
def aaV (l:List ak) (K:Int) (A:List ac) (R:List ac):ab:=⟨[(5,.ptr (.loc 5) 0),(4,.ptr (.loc 4) 0),(0,cq)],loS A,QX l K R,2⟩
def aaU (l:List ak) (K:Int) (A:List ac) (R:List ac) (i:Int):ab:=⟨[(6,iv i),(5,.ptr (.loc 5) 0),(4,.ptr (.loc 4) 0),(0,cq)],loS A,QX l K R,2⟩
def pD (l:List ak) (K:Int) (A:List ac) (R:List ac) (i:Int) (o:Nat):ab:=⟨[(7,.ptr (.out 1) o),(6,iv i),(5,.ptr (.loc 5) 0),(4,.ptr (.loc 4) 0),(0,cq)],loS A,QX l K R,2⟩
def pC (l:List ak) (K:Int) (A:List ac) (R:List ac):ab:=⟨[(5,.ptr (.loc 5) 0),(4,.ptr (.loc 4) 0)],loS A,QX l K R,2⟩
def aex (l:List ak) (K:Int) (A:List ac) (R:List ac):ab:=⟨[(4,.ptr (.loc 4) 0)],[(.loc 4,.cells A)],QX l K R,2⟩
variable {K p s:Int} {R:List ac} {T:ej} {l:List ak}
theorem aeF {a b:ak} (c:dj a) (d:dj b) (e:T .normal ((aaY l K (cC p s a b)).al cP)) :
  KD (du Tryz.f11 0) T ((⟨rG 0 [cq,.dat (aN p s a b)],[],cW l K,1⟩:ab).al cP):=by
 have f:=aS (p:=p) (s:=s) c d;clear c d;exact aq [] [3] (H:=ya) (live:=dP) (oo f (oe e))
theorem yY (l:Nat) {c d:ak} (a:dj c) (b:dj d):cG ba 26 [.ptr (.loc l) 0,.dat (aN p s c d)] (some (.cells (cC 0 0 nl nl)))=some ⟨.undef,.set (.cells (cC p s c d))⟩:=by
 rcases a with rfl|⟨E,rfl⟩ <;> rcases b with rfl|⟨F,rfl⟩ <;> kernel_rfl
theorem aeE {a b:ak} (c:dj a) (d:dj b) (e:T .normal ((aaX l K (cC p s a b)).al cP)) :
  KD (du Tryz.f11 1) T ((aaY l K (cC p s a b)).al cP):=by
 have f:=aO false 3 (p:=p) (s:=s) c d;have g:=yY 5 (p:=p) (s:=s) c d;clear c d;exact aq [] [8,100005] (H:=ya) (live:=dP) (oo f (oo g (oe e)))
theorem aeD {x:ak} {b:List ak} {a:ak} {n:Nat} (A:bB ba true 23 [.own [],.dat (.slice (x::b))] none=some ⟨.undef,.grow (.cells R) 15 n⟩) (N:bh (.cells R)=true) (e:T .normal ((aaW l K (cC p s (.slice (x::b)) a) [iv p,iv s,.win (.out 1) 15 0 n,.dat a] R).al cP)) :
  KD (du Tryz.f11 2) T ((aaX l K (cC p s (.slice (x::b)) a)).al cP):=by
 exact aq [500012] [12] (H:=ya) (live:=dP) (oo A (ob N (oe e)))
theorem aeC {b:ak} {a:List ak} {n:Nat} (A:bB ba false 24 [.own [],.dat (.slice a)] none=some ⟨.own a,.keep⟩) (e:T .normal ((aaV l K [iv p,iv s,.win (.out 1) 15 0 n,.own a] R).al cP)) :
  KD (du Tryz.f11 3) T ((aaW l K (cC p s b (sl a)) [iv p,iv s,.win (.out 1) 15 0 n,.dat (sl a)] R).al cP):=by
 rcases a with _|⟨x,a⟩ <;>
 ·exact aq [] [17] (H:=ya) (live:=dP) (oo A (oe e))
theorem aeB {a i:Int} {b:List ak} {n:Nat} (c:kb ba 23 [.win (.out 1) 15 0 n] none=some ⟨iv (ofNat n),.keep⟩) (h:bP l (ofNat n) K i a) (e:T .normal ((aaU l a [iv p,iv s,.win (.out 1) 15 0 n,.own b] R i).al cP)) :
  KD (du Tryz.f11 4) T ((aaV l K [iv p,iv s,.win (.out 1) 15 0 n,.own b] R).al cP):=by
 have d:=pt R h rfl rfl rfl;clear h;exact aq [] [22] (H:=ya) (live:=dP) (oo c (oh d (oe e)))
theorem aeA {i:Int} {a:List ak} {n o:Nat} (b:ap ba 23 [.win (.out 1) 15 0 n,iv i]=some ⟨.ptr (.out 1) o,.keep⟩) (e:T .normal ((pD l K [iv p,iv s,.win (.out 1) 15 0 n,.own a] R i o).al cP)) :
  KD (du Tryz.f11 5) T ((aaU l K [iv p,iv s,.win (.out 1) 15 0 n,.own a] R i).al cP):=by
 exact aq [] [27] (H:=ya) (live:=dP) (oo b (oe e))
section
variable {K c d i j k p s x:Int} {R a:List ac} {T:ej} {f l:List ak} {n o:Nat}
theorem abg (h:bP l 14 K 0 c) (b:bP l 25 c x d) (g:cG ba 3 [.ptr (.out 1) o,iv (an .i64 (x - 1))] (some (.cells R))=some ⟨.undef,.set (.cells a)⟩) (N:bh (.cells a)=true) (e:T .normal ((pC l d [iv p,iv s,.win (.out 1) 15 0 n,.own f] a).al cP)) :
  KD (du Tryz.f11 6) T ((pD l K [iv p,iv s,.win (.out 1) 15 0 n,.own f] R i o).al cP):=by
 have j:=pt R h rfl rfl rfl;clear h;have k:=pt R b rfl rfl rfl;clear b;exact aq [600045] [100045] (H:=ya) (live:=dP) (oh j (oh k (oo g (ob N (oe e)))))
theorem abf (h:bP l 14 K 1 c) (b:bP l 9 c x d) (g:cG ba 3 [.ptr (.out 1) (o+1),iv (an .i64 (x - 1))] (some (.cells R))=some ⟨.undef,.set (.cells a)⟩) (N:bh (.cells a)=true) (e:T .normal ((pC l d [iv p,iv s,.win (.out 1) 15 0 n,.own f] a).al cP)) :
  KD (du Tryz.f11 6) T ((pD l K [iv p,iv s,.win (.out 1) 15 0 n,.own f] R i o).al cP):=by
 have j:=pt R h rfl rfl rfl;clear h;have k:=pt R b rfl rfl rfl;clear b;exact aq [600053] [100053] (H:=ya) (live:=dP) (oh j (oh k (oo g (ob N (oe e)))))
theorem abe (h:bP l 14 K 2 c) (b:Z0 l c x d) (g:cG ba 3 [.ptr (.out 1) (o+2),iv x] (some (.cells R))=some ⟨.undef,.set (.cells a)⟩) (N:bh (.cells a)=true) (e:T .normal ((pC l d [iv p,iv s,.win (.out 1) 15 0 n,.own f] a).al cP)) :
  KD (du Tryz.f11 6) T ((pD l K [iv p,iv s,.win (.out 1) 15 0 n,.own f] R i o).al cP):=by
 have j:=pt R h rfl rfl rfl;clear h;have k:=pt R b rfl rfl rfl;clear b;exact aq [600060] [100060] (H:=ya) (live:=dP) (oh j (oh k (oo g (ob N (oe e)))))
theorem abd (h:bP l 14 K 3 c) (b:bP l 9 c x d) (g:cG ba 3 [.ptr (.out 1) (o+3),iv (an .i64 (x - 1))] (some (.cells R))=some ⟨.undef,.set (.cells a)⟩) (N:bh (.cells a)=true) (e:T .normal ((pC l d [iv p,iv s,.win (.out 1) 15 0 n,.own f] a).al cP)) :
  KD (du Tryz.f11 6) T ((pD l K [iv p,iv s,.win (.out 1) 15 0 n,.own f] R i o).al cP):=by
 have j:=pt R h rfl rfl rfl;clear h;have k:=pt R b rfl rfl rfl;clear b;exact aq [600068] [100068] (H:=ya) (live:=dP) (oh j (oh k (oo g (ob N (oe e)))))
theorem abc (h:bP l 14 K 4 c) (b:bP l 14 c x d) (g:cG ba 3 [.ptr (.out 1) (o+4),iv (an .i64 (x - 2))] (some (.cells R))=some ⟨.undef,.set (.cells a)⟩) (N:bh (.cells a)=true) (e:T .normal ((pC l d [iv p,iv s,.win (.out 1) 15 0 n,.own f] a).al cP)) :
  KD (du Tryz.f11 6) T ((pD l K [iv p,iv s,.win (.out 1) 15 0 n,.own f] R i o).al cP):=by
 have j:=pt R h rfl rfl rfl;clear h;have k:=pt R b rfl rfl rfl;clear b;exact aq [600076] [100076] (H:=ya) (live:=dP) (oh j (oh k (oo g (ob N (oe e)))))
theorem abb {g:List UInt8} (h:bP l 14 K 5 c) (b:bP l 11 c x d) (j:ap ba 70 [.dat (.slice (encS HH)),.dat (.flat (.int .i64 x))]=some ⟨.ref [sb g],.keep⟩) (k:cG ba 9 [.ptr (.out 1) (o+5),.dat (sb g)] (some (.cells R))=some ⟨.undef,.set (.cells a)⟩) (N:bh (.cells a)=true) (e:T .normal ((pC l d [iv p,iv s,.win (.out 1) 15 0 n,.own f] a).al cP)) :
  KD (du Tryz.f11 6) T ((pD l K [iv p,iv s,.win (.out 1) 15 0 n,.own f] R i o).al cP):=by
 have m:=pt R h rfl rfl rfl;clear h;have q:=pt R b rfl rfl rfl;clear b;exact aq [600088] [85,100088] (H:=ya) (live:=dP) (oh m (oh q (oo j (oo k (ob N (oe e))))))
theorem aba {k:List ak} {c:List ac} {g:Int} {a:List ak} (h:bP l 14 K 6 d) (D:eB ba false 22 [.ptr (.out 1) (o+6)] (some (.cells R))=some ⟨.dat nl,.keep⟩) (b:bP l 7 d x g) (f:Vc l 9 x g a j) (A:bB ba false 22 [.own [],.dat (.slice a)] none=some ⟨.own a,.keep⟩) (m:cG ba 22 [.ptr (.out 1) (o+6),.own a] (some (.cells R))=some ⟨.undef,.set (.cells c)⟩) (N:bh (.cells c)=true) (e:T .normal ((pC l j [iv p,iv s,.win (.out 1) 15 0 n,.own k] c).al cP)) :
  KD (du Tryz.f11 6) T ((pD l K [iv p,iv s,.win (.out 1) 15 0 n,.own k] R i o).al cP):=by
 have q:=pt R h rfl rfl rfl;clear h;have r:=pt R b rfl rfl rfl;clear b;have t:=pt R f rfl rfl rfl;clear f
 rcases a with _|⟨z,a⟩
 ·exact aq [600104] [96,97,102,100104] (H:=ya) (live:=dP) (oh q (oo D (oo A (oh r (oh t (oo A (oo m (ob N (oe e)))))))))
 exact aq [600104] [96,102,100104] (H:=ya) (live:=dP) (oh q (oo D (oh r (oh t (oo A (oo m (ob N (oe e))))))))
theorem WJ {k:List ak} {c:List ac} {g:Int} {a:List ak} (h:bP l 14 K 6 d) (D:eB ba false 22 [.ptr (.out 1) (o+6)] (some (.cells R))=some ⟨.dat (.slice []),.keep⟩) (b:bP l 7 d x g) (f:Vc l 9 x g a j) (A:bB ba false 22 [.own [],.dat (.slice a)] none=some ⟨.own a,.keep⟩) (m:cG ba 22 [.ptr (.out 1) (o+6),.own a] (some (.cells R))=some ⟨.undef,.set (.cells c)⟩) (N:bh (.cells c)=true) (e:T .normal ((pC l j [iv p,iv s,.win (.out 1) 15 0 n,.own k] c).al cP)) :
  KD (du Tryz.f11 6) T ((pD l K [iv p,iv s,.win (.out 1) 15 0 n,.own k] R i o).al cP):=by
 have q:=pt R h rfl rfl rfl;clear h;have r:=pt R b rfl rfl rfl;clear b;have t:=pt R f rfl rfl rfl;clear f
 rcases a with _|⟨z,a⟩
 ·exact aq [600104] [96,97,102,100104] (H:=ya) (live:=dP) (oh q (oo D (oo A (oh r (oh t (oo A (oo m (ob N (oe e)))))))))
 exact aq [600104] [96,102,100104] (H:=ya) (live:=dP) (oh q (oo D (oh r (oh t (oo A (oo m (ob N (oe e))))))))
theorem WK {q:List ak} {d:List ac} {m:Int} {y:ak} {a c r:List ak} (h:bP l 14 K 6 j) (D:eB ba false 22 [.ptr (.out 1) (o+6)] (some (.cells R))=some ⟨.dat (.slice (y::a)),.keep⟩) (g:bB ba false 22 [.own [],.dat (.slice (y::a))] none=some ⟨.own (y::a),.keep⟩) (b:bP l 7 j x k) (f:Vc l 9 x k c m) (A:bB ba false 22 [.own (y::a),.dat (.slice c)] none=some ⟨.own r,.keep⟩) (t:cG ba 22 [.ptr (.out 1) (o+6),.own r] (some (.cells R))=some ⟨.undef,.set (.cells d)⟩) (N:bh (.cells d)=true) (e:T .normal ((pC l m [iv p,iv s,.win (.out 1) 15 0 n,.own q] d).al cP)) :
  KD (du Tryz.f11 6) T ((pD l K [iv p,iv s,.win (.out 1) 15 0 n,.own q] R i o).al cP):=by
 have u:=pt R h rfl rfl rfl;clear h;have v:=pt R b rfl rfl rfl;clear b;have w:=pt R f rfl rfl rfl;clear f
 rcases c with _|⟨z,c⟩ <;>
 ·exact aq [600104] [96,97,102,100104] (H:=ya) (live:=dP) (oh u (oo D (oo g (oh v (oh w (oo A (oo t (ob N (oe e)))))))))
theorem aa9 {j:List UInt8} {g:List ak} (h:bP l 14 K 7 c) (b:AnT l 2 c (.agg [i64 k,sb j,i64 x,sl g]) d) (m:cG ba 40 [.ptr (.out 1) (o+7),.dat (.agg [i64 k,sb j,i64 x,sl g])] (some (.cells R))=some ⟨.undef,.set (.cells a)⟩) (N:bh (.cells a)=true) (e:T .normal ((pC l d [iv p,iv s,.win (.out 1) 15 0 n,.own f] a).al cP)) :
  KD (du Tryz.f11 6) T ((pD l K [iv p,iv s,.win (.out 1) 15 0 n,.own f] R i o).al cP):=by
 have q:=pt R h rfl rfl rfl;clear h;have r:=pt R b rfl rfl rfl;clear b;exact aq [600111] [100111] (H:=ya) (live:=dP) (oh q (oh r (oo m (ob N (oe e)))))
theorem aa8 {m:List ak} {y z:Int} {q:List UInt8} (h:bP l 14 K 8 c) (b:bP l 7 c x d) (f:bP l 4 d y j) (g:bP l 6 j z k) (r:ap ba 70 [.dat (.slice (encS H5)),.dat (.flat (.int .i64 z))]=some ⟨.ref [sb q],.keep⟩) (t:cG ba 43 [.ptr (.out 1) (o+11),.dat (.agg [i64 x,i64 (an .i64 (y - 1)),sb q,nl])] (some (.cells R))=some ⟨.undef,.set (.cells a)⟩) (N:bh (.cells a)=true) (e:T .normal ((pC l k [iv p,iv s,.win (.out 1) 15 0 n,.own m] a).al cP)) :
  KD (du Tryz.f11 6) T ((pD l K [iv p,iv s,.win (.out 1) 15 0 n,.own m] R i o).al cP):=by
 have u:=pt R h rfl rfl rfl;clear h;have v:=pt R b rfl rfl rfl;clear b;have w:=pt R f rfl rfl rfl;clear f;have A:=pt R g rfl rfl rfl;clear g;exact aq [600129] [125,100129] (H:=ya) (live:=dP) (oh u (oh v (oh w (oh A (oo r (oo t (ob N (oe e))))))))
theorem aa7 {a:Int} {d:List ak} (h:bP l 14 K 9 a) (b:Z0 l a x c) (e:T .normal ((pC l c [iv x,iv s,.win (.out 1) 15 0 n,.own d] R).al cP)) :
  KD (du Tryz.f11 6) T ((pD l K [iv p,iv s,.win (.out 1) 15 0 n,.own d] R i o).al cP):=by
 have f:=pt R h rfl rfl rfl;clear h;have g:=pt R b rfl rfl rfl;clear b;exact aq [] [] (H:=ya) (live:=dP) (oh f (oh g (oe e)))
theorem WO {a:Int} {d:List ak} (h:bP l 14 K 10 a) (b:Z0 l a x c) (e:T .normal ((pC l c [iv p,iv x,.win (.out 1) 15 0 n,.own d] R).al cP)) :
  KD (du Tryz.f11 6) T ((pD l K [iv p,iv s,.win (.out 1) 15 0 n,.own d] R i o).al cP):=by
 have f:=pt R h rfl rfl rfl;clear h;have g:=pt R b rfl rfl rfl;clear b;exact aq [] [] (H:=ya) (live:=dP) (oh f (oh g (oe e)))
theorem WN {a:Int} {b:List ak} {m:Nat} (h:bP l 14 K 11 a) (c:fF ba 23 none (some (.tmp 144)) none [.win (.out 1) 15 0 n,iv i]=some ⟨.win (.out 1) 15 0 m,.keep⟩) (e:T .normal ((pC l a [iv p,iv s,.win (.out 1) 15 0 m,.own b] R).al cP)) :
  KD (du Tryz.f11 6) T ((pD l K [iv p,iv s,.win (.out 1) 15 0 n,.own b] R i o).al cP):=by
 have d:=pt R h rfl rfl rfl;clear h;exact aq [] [145] (H:=ya) (live:=dP) (oh d (oo c (oe e)))
theorem WM {g:Int} {q:List ak} {m:Int} {d a r:List ak} (h:bP l 14 K 12 g) (b:bP l 8 g x j) (f:KC 9 [cq,iv 1] (cW l j) 1 (XQ ⟨.dat (aN m c (sl d) (sl a)),cW l k,1⟩)) (A:bB ba false 24 [.own q,.dat (.slice [.slice [B0 (an .i64 (x - 1)) [] 0 0 [] 0 nl false nl [] 0 [] 0 nl 0 m c (sl d) (sl a) []]])] none=some ⟨.own r,.keep⟩) (e:T .normal ((pC l k [iv p,iv s,.win (.out 1) 15 0 n,.own r] R).al cP)) :
  KD (du Tryz.f11 6) T ((pD l K [iv p,iv s,.win (.out 1) 15 0 n,.own q] R i o).al cP):=by
 have t:=pt R h rfl rfl rfl;clear h;have u:=pt R b rfl rfl rfl;clear b;have v:=pt R f rfl rfl rfl;clear f;refine aq [] [159] (H:=ya) (live:=dP) (oh t (oh u (oh v ?_)))
 rcases d with _|⟨z,B⟩
 ·rcases a with _|⟨w,y⟩ <;>
  ·exact oo A (oe e)
 rcases a with _|⟨C,D⟩ <;>
 ·exact oo A (oe e)
theorem WL {g:Int} {y:List ak} {w:List UInt8} {u D:Int} {E:List UInt8} {r:ak} {a:Bool} {v:ak} {z:List UInt8} {G:Int} {t:List UInt8} {f:Int} {F:ak} {B:Int} {m q:ak} {C:List UInt8} {I:List ak} (h:bP l 14 K 13 g) (b:KC 33 [cq,iv 1] (cW l g) 1 (XQ ⟨.dat (B0 x w u D E d r a v z G t f F B k c m q C),cW l j,1⟩)) (A:bB ba false 24 [.own y,.dat (.slice [.slice [B0 x w u D E d r a v z G t f F B k c m q C]])] none=some ⟨.own I,.keep⟩) (e:T .normal ((pC l j [iv p,iv s,.win (.out 1) 15 0 n,.own I] R).al cP)) :
  KD (du Tryz.f11 6) T ((pD l K [iv p,iv s,.win (.out 1) 15 0 n,.own y] R i o).al cP):=by
 have J:=pt R h rfl rfl rfl;clear h;have L:=pt R b rfl rfl rfl;clear b;exact aq [] [36] (H:=ya) (live:=dP) (oh J (oh L (oo A (oe e))))
end
theorem aez {l:List ak} {K p s:Int} {n:Nat} {a:List ak} {R:List ac} {T:ej} (e:T .ret ((aex l K [iv p,iv s,.win (.out 1) 15 0 n,.dat (.slice a)] R).al cP)) :
  KD (kc Tryz.f11 7) T ((pC l K [iv p,iv s,.win (.out 1) 15 0 n,.own a] R).al cP):=by
 refine aq [] [] (H:=ya) (live:=dP) ?_;exact oe e
def GAn (l:List Int) (P:Nat):Prop:=∀k,k<=l.length->∃(t:Ty) (K:Nat),(t.size<=9 ^ P/\t.fY)/\BG l k K/\AnT (l.map iN) (ofNat P) (ofNat k) t.enc (ofNat K)
theorem Bv {r:Nat} (h:r < 11):∃s:List UInt8,HH[r]?=some s:=⟨HH[r]'h,List.getElem?_eq_getElem h⟩
section
variable {l:List Int} (hl:l.length < 10000000) (hr:inR l)
include hl
include hr in
theorem ad7 {k:Nat} (hk:k<=l.length) (dp kd:Int):∃(kd':Int) (nm:List UInt8) (ix:Int) (k2:Nat),ix < 9223372036854775808/\BG l k k2/\AT 2 (kh (l.map iN) (ofNat k) dp kd [] 0) (kh (l.map iN) (ofNat k2) dp kd' nm ix):=by
 obtain⟨r,k1,⟨h0,a1,a2,_⟩,hc⟩:=aR (n:=12) (by omega:l.length < 1000000000) hk (by omega) (by omega)
 by_cases h9:r=9
 ·subst h9;obtain⟨x,k2,_,b,hx⟩:=GS (by omega:l.length < 1000000000) a2 hr;exact⟨x,[],0,k2,by omega,⟨by have:=b.le;omega,b.top⟩,ad0 hc rfl hx ⟨rfl,rfl⟩⟩
 have e9:aB (ofNat r) 9=false:=dL (by simp;omega)
 by_cases h10:r=10
 ·subst h10;obtain⟨x,k2,hx2,b,hx⟩:=GS (by omega:l.length < 1000000000) a2 hr;exact⟨kd,[],x,k2,hx2.2,⟨by have:=b.le;omega,b.top⟩,adZ hc e9 rfl hx ⟨rfl,rfl⟩⟩
 have e10:aB (ofNat r) 10=false:=dL (by simp;omega)
 by_cases h11:r=11
 ·subst h11;obtain⟨x,k2,⟨hx2,b1,b2,_⟩,hx⟩:=aR (n:=11) (by omega:l.length < 1000000000) a2 (by omega) (by omega);obtain⟨s,hs⟩:=Bv hx2;exact⟨kd,s,0,k2,by omega,⟨by omega,b2⟩,adY hc e9 e10 rfl hx (uB hs) ⟨rfl,rfl⟩⟩
 have e11:aB (ofNat r) 11=false:=dL (by simp;omega);exact⟨kd,[],0,k1,by omega,⟨a1,a2⟩,jT 51 (adX hc e9 e10 e11 ⟨rfl,rfl⟩) (by kernel_rfl)⟩
theorem ad6 {k:Nat} (c:k<=l.length) (P b:Int) (d:List UInt8) {x:Int} (i:x < 9223372036854775808):∃(a:Int) (K:Nat),a < 9223372036854775808/\BG l k K/\AT 3 (kh (l.map iN) (ofNat k) P b d x) (kh (l.map iN) (ofNat K) P b d a):=by
 cases G:aB b 5 with
 | true=>
  obtain⟨r,h,⟨o,f,g,_⟩,e⟩:=aR (n:=4) (by omega:l.length < 1000000000) c (by omega) (by omega);exact⟨ofNat r,h,by show (r:Int) < _;omega,⟨f,g⟩,adW G e ⟨rfl,rfl⟩⟩
 | false=>exact⟨x,k,i,⟨Nat.le_refl _,c⟩,jT 51 (adV G ⟨rfl,rfl⟩) (by kernel_rfl)⟩
theorem ad5 {k:Nat} (d:k<=l.length) (P a:Int) (f:List UInt8) (x:Int):∃(c:List UInt8) (K:Nat),BG l k K/\AT 4 (kh (l.map iN) (ofNat k) P a f x) (kh (l.map iN) (ofNat K) P a c x):=by
 cases b:aB a 2 with
 | true=>
  obtain⟨r,j,⟨o,g,h,_⟩,e⟩:=aR (n:=11) (by omega:l.length < 1000000000) d (by omega) (by omega);obtain⟨s,i⟩:=Bv o;exact⟨s,j,⟨g,h⟩,adU b e (uB i) ⟨rfl,rfl⟩⟩
 | false=>exact⟨f,k,⟨Nat.le_refl _,d⟩,jT 51 (adT b ⟨rfl,rfl⟩) (by kernel_rfl)⟩
theorem ad4 {k:Nat} (c:k<=l.length) (P a:Int) (m:List UInt8) (x:Int):∃(n K:Nat),n<=8/\BG l k K/\AT 6 (pR (l.map iN) (ofNat k) P a m x 0) (pR (l.map iN) (ofNat K) P a m x (ofNat n)):=by
 cases b:aB a 2 with
 | true=>
  obtain⟨r,j,⟨o,g,i,_⟩,e⟩:=aR (n:=3) (by omega:l.length < 1000000000) c (by omega) (by omega);exact⟨r,j,by omega,⟨g,i⟩,adS b e ⟨rfl,rfl⟩⟩
 | false=>
  cases f:aB a 3 with
  | true=>
   obtain⟨r,j,⟨o,g,i,_⟩,e⟩:=aR (n:=3) (by omega:l.length < 1000000000) c (by omega) (by omega);exact⟨r,j,by omega,⟨g,i⟩,adR b f e ⟨rfl,rfl⟩⟩
  | false=>
   cases d:(aB a 4||aB a 6) with
   | true=>exact⟨2,k,by omega,⟨Nat.le_refl _,c⟩,V6 b f rfl rfl (fun _=>⟨rfl,rfl⟩) (fun h=>by rw[d] at h;simp at h)⟩
   | false=>exact⟨0,k,by omega,⟨Nat.le_refl _,c⟩,jT 115 (V6 b f rfl rfl (fun h=>by rw[d] at h;simp at h) (fun _=>⟨rfl,rfl⟩)) (by kernel_rfl)⟩
theorem ad3 {k n:Nat} (m:k<=l.length) (N:n<=8) (P f:Int) (i:List UInt8) (d:Int):∃(g K:Nat),g<=8/\BG l k K/\AT 7 (pR (l.map iN) (ofNat k) P f i d (ofNat n)) (pR (l.map iN) (ofNat K) P f i d (ofNat g)):=by
 obtain⟨r,p,⟨o,j,b,_⟩,e⟩:=aR (n:=10) (by omega:l.length < 1000000000) m (by omega) (by omega)
 cases c:aB (ofNat r) 9 with
 | true=>
  obtain⟨x,K,⟨s,q,Q,_⟩,a⟩:=aR (n:=9) (by omega:l.length < 1000000000) b (by omega) (by omega);exact⟨x,K,by omega,⟨by omega,Q⟩,adQ e c (fun _=>a) (fun _=>⟨rfl,rfl⟩) (fun h=>by simp at h)⟩
 | false=>exact⟨n,p,N,⟨j,b⟩,jT 115 (adQ (K3:=0) (x:=0) e c (fun h=>by simp at h) (fun h=>by simp at h) (fun _=>⟨rfl,rfl⟩)) (by kernel_rfl)⟩
omit hl in
theorem ad2 {dp:Nat} (hdp:dp<=2) (ih:dp≠0->GAn l (dp - 1)) {k n:Nat} (hk:k<=l.length) (hn:n<=8) (kd:Int) (nm:List UInt8) (ix:Int) :
  ∃(ts:List Ty) (k2:Nat),ts.length<=8/\(dp=0->ts=[])/\(∀t∈ts,t.size<=9 ^ (dp - 1)/\t.fY)/\BG l k k2/\AT 8 (pR (l.map iN) (ofNat k) (ofNat dp) kd nm ix (ofNat n)) (Cu (l.map iN) (ofNat k2) (ofNat dp) kd nm ix (ofNat n) (ofNat ts.length) (dS (ax ts))):=by
 obtain⟨m,hm,hm2,hm3⟩:∃m:Nat,m<=n/\(dp=0->m=0)/\(m < n->dp=0):=by
  by_cases h:dp=0
  ·exact⟨0,by omega,fun _=>rfl,fun _=>h⟩
  exact⟨n,by omega,fun h2=>absurd h2 h,fun h2=>absurd h2 (by omega)⟩
 have hch:∃(xs:List Ty) (ks:Nat->Nat),xs.length=m/\ks 0=k/\(∀i,i<=m->BG l k (ks i))/\∀i a,xs[i]?=some a->(a.size<=9 ^ (dp - 1)/\a.fY)/\AnT (l.map iN) (ofNat (dp - 1)) (ofNat (ks i)) a.enc (ofNat (ks (i+1))):=by
  by_cases h:dp=0
  ·rw[hm2 h];exact⟨[],fun _=>k,rfl,rfl,fun _ _=>⟨Nat.le_refl _,hk⟩,fun i a h=>by simp at h⟩
  exact wy (R:=fun (k:Nat) (a:Ty) (k2:Nat)=>(a.size<=9 ^ (dp - 1)/\a.fY)/\AnT (l.map iN) (ofNat (dp - 1)) (ofNat k) a.enc (ofNat k2)) (fun k hk=>by
   obtain⟨t,k2,h1,h2,h3⟩:=ih h k hk;exact⟨t,k2,h2,h1,h3⟩) hk m
 obtain⟨ts,ks,h1,h2,h3,h4⟩:=hch;refine⟨ts,ks m,by omega,fun h=>by have:=hm2 h;exact List.length_eq_zero_iff.1 (by omega),fun t ht=>?_,h3 m (Nat.le_refl _),?_⟩
 ·obtain⟨i,hi,rfl⟩:=List.getElem_of_mem ht;exact (h4 i _ (List.getElem?_eq_getElem hi)).1
 rw[h1];refine afi (i:=ofNat m) (pre:=ax ts) ?_ ⟨rfl,rfl⟩;rw[←h2];refine bm (St:=fun i=>(Mh (l.map iN) (ofNat (ks i)) (ofNat dp) kd nm ix (ofNat n) (ofNat i) (dS (ax (ts.take i)))).al cT) m ?_ ?_ (i:=0) (Nat.zero_le _)
 ·intro i hi;have hg:ts[i]?=some ts[i]:=List.getElem?_eq_getElem (by omega);have hw:an .i64 (ofNat i+1)=ofNat (i+1):=bb (by omega);have ht:ts.take (i+1)=ts.take i++[ts[i]]:=List.take_succ_eq_append_getElem (by omega);have hA:=(h4 i _ hg).2;have ha:=U5 (pre:=ts.take i) (t:=ts[i]) (by rw[List.length_take];omega);rw[←ht] at ha;have hd0:dp≠0:=fun h=>by have:=hm2 h;omega
  have hdw:an .i64 (ofNat dp - 1)=ofNat (dp - 1):=by
   match dp,hdp,hd0 with
   | 1,_,_=>rfl
   | 2,_,_=>rfl
  rw[←hdw] at hA;generalize ts[i]=t at hA ha;obtain⟨kt,tn,ti,la⟩:=t;have hne:ax (ts.take (i+1))≠[]:=fun h=>by
   have:=congrArg List.length h
   rw[aH,List.length_take,List.length_nil] at this;omega
  refine R7 (br (by omega)) (jj (a:=0) (by omega)) hA ha ?_;rw[hw,←yo hne];exact rfl
 rw[List.take_of_length_le (by omega)]
 by_cases h:m < n
 ·exact R8 rfl (by rw[hm3 h];rfl) ⟨rfl,rfl⟩
 exact U1 (cj (by omega)) rfl ⟨rfl,rfl⟩
include hr in
theorem Si {dp:Nat} (hdp:dp<=2) (ih:dp≠0->GAn l (dp - 1)):GAn l dp:=by
 intro k hk;obtain⟨r,k1,⟨h0,a1,a2,_⟩,hc⟩:=aR (n:=7) (by omega:l.length < 1000000000) hk (by omega) (by omega);obtain⟨kd,nm,ix,k2,hi2,b2,p2⟩:=ad7 hl hr a2 (ofNat dp) (ofNat r);obtain⟨ix3,k3,hi3,b3,p3⟩:=ad6 hl b2.top (ofNat dp) kd nm hi2;obtain⟨nm4,k4,b4,p4⟩:=ad5 hl b3.top (ofNat dp) kd nm ix3;obtain⟨n6,k6,hn6,b6,p6⟩:=ad4 hl b4.top (ofNat dp) kd nm4 ix3;obtain⟨n7,k7,hn7,b7,p7⟩:=ad3 hl b6.top hn6 (ofNat dp) kd nm4 ix3;obtain⟨ts,k8,h81,h82,h83,b8,p8⟩:=ad2 hdp ih b7.top hn7 kd nm4 ix3;refine⟨.mk kd nm4 ix3 ts,k8,⟨?_,?_⟩,⟨by have:=b2.le;have:=b3.le;have:=b4.le;have:=b6.le;have:=b7.le;have:=b8.le;omega,b8.top⟩,?_⟩
 ·simp only[Ty.size];have hs:∀(ts:List Ty),(∀t∈ts,t.size<=9 ^ (dp - 1)/\t.fY)->aQ ts<=ts.length*9 ^ (dp - 1):=by
   intro ts
   induction ts with
   | nil=>intro _;simp[aQ]
   | cons t r ih=>
    intro h;have h1:=(h t (by simp)).1;have h2:=ih (fun x hx=>h x (by simp[hx]));simp only[aQ,List.length_cons,Nat.add_mul,Nat.one_mul];omega
  have hs:=hs ts h83
  match dp,hdp with
  | 0,_=>rw[h82 rfl];simp[aQ]
  | 1,_=>simp only[Nat.sub_self,Nat.pow_zero,Nat.mul_one] at hs;omega
  | 2,_=>simp only[show 2 - 1=1 from rfl,Nat.pow_one] at hs;omega
 ·simp only[Ty.fY];refine⟨fun _=>by rw[dA];exact decide_eq_true hi3,af4 (fun t ht=>(h83 t ht).2)⟩
 refine Ht (x:=qS.of Tryz.f37 KS eW) (by kernel_rfl) (fn0:=Tryz.f37) rfl (by kernel_rfl) ?_;refine di (by kernel_rfl) (apd ⟨rfl,rfl⟩) ?_;refine di (by kernel_rfl) (afk hc ⟨rfl,rfl⟩) ?_;refine di (by kernel_rfl) p2 ?_;refine di (by kernel_rfl) p3 ?_;refine di (by kernel_rfl) p4 ?_;refine di (by kernel_rfl) (afj ⟨rfl,rfl⟩) ?_;refine di (by kernel_rfl) p6 ?_;refine di (by kernel_rfl) p7 ?_;refine di (by kernel_rfl) p8 ?_;refine afh (pre:=ax ts) ⟨rfl,_,rfl,?_⟩;show sU ba _ _ (aa5 _ _ kd nm4 ix3 (.dat (sl (ax ts))))=some ⟨.dat (.agg [i64 kd,sb nm4,i64 ix3,sl (ax ts)]),_,_⟩
 cases ax ts with
 | nil=>kernel_rfl
 | cons d r=>kernel_rfl
include hr in
theorem Q6:∀dp:Nat,dp<=2->GAn l dp
 | 0,h=>Si hl hr h (fun h=>absurd rfl h)
 | d+1,h=>Si hl hr h (fun _=>Q6 d (by omega))
end
theorem DH (l:List ak):sx true l=.slice l:=by cases l <;> rfl
abbrev S6 (l:List ak) (K b:Int) (A a R c:List ac) (i:Int) (o:Nat):Prop:=KD (du Tryz.f11 6) (fun e q=>e=.normal/\q=(pC l b a c).al cP) ((pD l K A R i o).al cP)
def cA (p s:Int) (n:Nat) (a:List ak):List ac:=[iv p,iv s,.win (.out 1) 15 0 n,.own a]
theorem Oo {l:List ak} {K H y p s t u:Int} {b:List Ins} {e:List (List fG)} {es f:List ak} {z:List ac} {i m:Nat} (N:b.length < 1000000) (q:b≠[]) (L:e.length < 1000000)
  (g:bP l (ofNat b.length) K (ofNat i) H) (M:i < b.length) (J:S6 l H y (cA p s b.length (aG e)) (cA t u m f) (gp b) z (ofNat i) (0+i*15))
  (F:es.length=m) (G:m<=lim) (n:∀i d,es[i]?=some d->d.cells.length=15/\∀j c,d.cells[j]?=some c->∃a,z[i*15+j]?=some a/\dK a=some c) :
  KC 11 [cq,.dat (aN p s (.slice (encI b)) (sl (aG e)))] (cW l K) 1 (XQ ⟨.dat (aN t u (.slice es) (.slice f)),cW l y,1⟩):=by
 have h:=Tb N q;have D:bB ba false 24 [.own [],.dat (.slice (aG e))] none=some ⟨.own (aG e),.keep⟩:=by
  refine uX (i:=Fc) (es:=[]) (ds:=aG e) (k:=0) DF rfl qU ?_ rfl (by kernel_rfl) ?_ ?_ ?_ (by simp)
  ·exact qA e
  ·have I:Fc.bytes<=1000:=fD (by kernel_rfl);rw[dJ]
   calc (0+e.length)*Fc.bytes<=1000000000*1000:=Nat.mul_le_mul (by omega) I
    _<=140737488355328:=by decide
  ·rw[dJ];simp[lim];omega
  unfold jr;rw[List.nil_append,xC]
 have A:KC 11 [cq,.dat (aN p s (.slice (encI b)) (sl (aG e)))] (cW l K) 1 (XQ ⟨.agg ([iv t,iv u]++.win (.out 1) 15 0 m::[.dat (.slice f)]),QX l y z,2⟩):=by
  refine Ht (x:=qS.of Tryz.f11 KU dP) (by kernel_rfl) (fn0:=Tryz.f11) rfl (by kernel_rfl) ?_;refine di (by kernel_rfl) (aeF (.inr ⟨_,rfl⟩) (dr (aG e)) ⟨rfl,rfl⟩) ?_;refine di (by kernel_rfl) (aeE (.inr ⟨_,rfl⟩) (dr (aG e)) ⟨rfl,rfl⟩) ?_;obtain⟨x,r,o⟩:∃x r,b=x::r:=by cases b with|nil=>exact absurd rfl q|cons x r=>exact⟨x,r,rfl⟩
  have E:encI b=x.enc::encI r:=by rw[o];rfl
  rw[E] at h ⊢;refine di (by kernel_rfl) (aeD h (qY b) ⟨rfl,rfl⟩) ?_;refine di (by kernel_rfl) (aeC D ⟨rfl,rfl⟩) ?_;refine di (by kernel_rfl) (aeB (QI (by omega)) g ⟨rfl,rfl⟩) ?_;refine di (by kernel_rfl) (aeA (Uh M) ⟨rfl,rfl⟩) ?_;refine di (by kernel_rfl) J ?_;exact aez ⟨rfl,_,rfl,by kernel_rfl⟩
 have B:=ay.ae1 A rfl F G n;have C:=ay.afm B (ds:=[i64 t,i64 u,.slice es,.slice f]) rfl;refine ay.rn C ?_;rintro v w m ⟨rfl,rfl,rfl⟩;exact⟨[],rfl,rfl,rfl,rfl,rfl⟩
def SpR (l:List Int) (c:gM) (k:Nat):Prop:=∃(d:gM) (K:Nat),d.ok/\BG l k K/\KC 11 [cq,.dat c.enc] (cW (l.map iN) (ofNat k)) 1 (XQ ⟨.dat d.enc,cW (l.map iN) (ofNat K),1⟩)
section
variable {l:List Int} {pa s:Int} {ins:List Ins} {cD:List (List fG)} {k k1 k2 i:Nat} (hok:(gM.mk pa s false ins false cD).ok) (hne:ins≠[])
  (h4:bP (l.map iN) (ofNat ins.length) (ofNat k) (ofNat i) (ofNat k1)) (hi:i < ins.length) (hA:BG l k k2)
include hok hne h4 hi hA
theorem zc {p' s':Int} {ins2:List Ins} {eds2:List (List fG)} {p:List ac} (e:(gM.mk p' s' true ins2 true eds2).ok)
  (q:S6 (l.map iN) (ofNat k1) (ofNat k2) (cA pa s ins.length (aG cD)) (cA p' s' ins2.length (aG eds2)) (gp ins) p (ofNat i) (0+i*15))
  (f:∀i d,(encI ins2)[i]?=some d->d.cells.length=15/\∀j c,d.cells[j]?=some c->∃a,p[i*15+j]?=some a/\dK a=some c):SpR l (.mk pa s false ins false cD) k:=by
 simp only[gM.ok] at hok e;refine⟨.mk p' s' true ins2 true eds2,k2,by simp only[gM.ok];exact e,hA,?_⟩;have h:=Oo hok.2.1 hne hok.2.2.1 h4 hi q (bH ins2) (by simp only[lim];omega) f;have E:gM.enc (.mk p' s' true ins2 true eds2)=aN p' s' (.slice (encI ins2)) (.slice (aG eds2)):=by rw[←DH,←DH];rfl
 have F:gM.enc (.mk pa s false ins false cD)=aN pa s (.slice (encI ins)) (sl (aG cD)):=by
  rw[←yS];show aN _ _ (sx false (encI ins)) _=_
  cases ins with
  | nil=>exact absurd rfl hne
  | cons x r=>rfl
 rw[E,F];exact h
theorem nQ {f:Nat} {x x':Ins} {vs:List ac} {ds:List ak} (q:ins[i]?=some x) (o:f+vs.length<=15) (V:vs.map dK=ds.map some) (m:x'.cells=bI f ds x.cells) (c:x'.gN) (j:aW vs=true)
  (n:bh (.cells (bI (0+i*15+f) vs (gp ins)))=true->S6 (l.map iN) (ofNat k1) (ofNat k2) (cA pa s ins.length (aG cD)) (cA pa s ins.length (aG cD)) (gp ins) (bI (0+i*15+f) vs (gp ins)) (ofNat i) (0+i*15)):SpR l (.mk pa s false ins false cD) k:=by
 have d:=hok;simp only[gM.ok] at hok;refine zc d hne h4 hi hA (ins2:=ins.set i x') (eds2:=cD) ?_ (by rw[List.length_set];exact n (sL _ _ _ j (qY ins))) (Ta q o V m);simp only[gM.ok];refine⟨fun y r=>?_,by rw[List.length_set];exact hok.2.1,hok.2.2.1,hok.2.2.2⟩
 rcases List.mem_or_eq_of_mem_set r with h|rfl
 ·exact hok.1 y h
 exact c
end
noncomputable def vl (t:TypeId):TI:=match ba.ty t with|some x=>x|none=>default
variable {E:ak} {T:ej} {a l:List ak} {d i k p v:Int}
theorem E6:ba.ty 3=some (vl 3):=by kernel_rfl
theorem tq:(vl 3).size=1:=by kernel_rfl
theorem aam:ba.ty 9=some (vl 9):=by kernel_rfl
theorem SM:(vl 9).size=1:=by kernel_rfl
theorem DC:ba.ty 22=some (vl 22):=by kernel_rfl
theorem NO:(vl 22).size=1:=by kernel_rfl
theorem yK:(vl 22).isAgg=false:=by kernel_rfl
theorem Wd:ba.ty 40=some (vl 40):=by kernel_rfl
theorem NM:(vl 40).size=4:=by kernel_rfl
theorem SL:ba.ty 43=some (vl 43):=by kernel_rfl
theorem L2:(vl 43).size=4:=by kernel_rfl
theorem kg {t:TypeId} {c:Nat} (T:ba.ty t=some (vl t)) (s:(vl t).size=c) {b:List Ins} {i f:Nat} {v:ac} (g:i < b.length) (a:(aY v).length=c) (o:0 < c) (e:f+c<=15) (d:dU (aY v)=true) :
  cG ba t [.ptr (.out 1) (0+i*15+f),v] (some (.cells (gp b)))=some ⟨.undef,.set (.cells (bI (0+i*15+f) (aY v) (gp b)))⟩:=
 WC T (by rw[s,a]) (by rw[s,jI];omega) d (by rw[s];exact o) (by rw[jI];omega)
theorem abR (t:Ty):dU (t.cells.map ac.dat)=true:=by
 obtain⟨k,n,x,a⟩:=t;simp only[Ty.cells,List.map_cons,List.map_nil]
 cases ax a <;> rfl
theorem Uw {l:List Int} {c:gM} {k:Nat} (hl:l.length < 10000000) (R:inR l) (J:aeb c) (hk:k<=l.length):SpR l c k:=by
 obtain⟨L,s,iz,j,ez,W⟩:=c;obtain⟨B,P,S,_,⟨af,a0⟩,bo,Y⟩:=J;have P:ez=false:=P;have S:iz=false:=S;subst P S;have af:2<=j.length:=af;have a0:j.length<=10:=a0;have bo:W.length<=2:=bo;have Y:∀x∈j,x.gen:=Y;have w:l.length < 1000000000:=by omega
 have C:j≠[]:=fun h=>by rw[h] at af;simp at af
 obtain⟨i,k1,⟨H,a1,a2,_⟩,g⟩:=aR (n:=j.length) w hk (by omega) (by omega);obtain⟨q,K,⟨hq,b1,Q,_⟩,G⟩:=aR (n:=14) w a2 (by omega) (by omega);have Z:j[i]?=some j[i]:=List.getElem?_eq_getElem H;have a8:j[i].gen:=Y _ (List.getElem_mem H);have u:=CY a8;generalize j[i]=x at Z a8 u;have m:=B;simp only[gM.ok] at m;have a3:∀{p' s':Int} {M:Nat},BG l K M->(bh (.cells (gp j))=true->S6 (l.map iN) (ofNat k1) (ofNat M) (cA L s j.length (aG W)) (cA p' s' j.length (aG W)) (gp j) (gp j) (ofNat i) (0+i*15))->SpR l (.mk L s false j false W) k:=by
  intro p' s' M I z;exact zc B C g H ⟨by have:=I.le;omega,I.top⟩ (by simp only[gM.ok];exact m) (z (qY j)) tE
 match q,hq with
 | 0,_=>
  obtain⟨r,M,⟨_,p,O,_⟩,z⟩:=aR (n:=25) w Q (by omega) (by omega);exact nQ (f:=0) (x':={x with op:=an .i64 (ofNat r - 1)}) (vs:=[iv (an .i64 (ofNat r - 1))]) (ds:=[i64 (an .i64 (ofNat r - 1))]) B C g H ⟨by omega,O⟩ Z (show 0+1<=15 by decide) rfl rfl u rfl (fun N=>abg G z (kg (f:=0) (v:=iv _) E6 tq H rfl (by decide) (by decide) rfl) N ⟨rfl,rfl⟩)
 | 1,_=>
  obtain⟨r,M,⟨_,p,O,_⟩,z⟩:=aR (n:=9) w Q (by omega) (by omega);exact nQ (f:=1) (x':={x with dst:=an .i64 (ofNat r - 1)}) (vs:=[iv (an .i64 (ofNat r - 1))]) (ds:=[i64 (an .i64 (ofNat r - 1))]) B C g H ⟨by omega,O⟩ Z (show 1+1<=15 by decide) rfl rfl u rfl (fun N=>abf G z (kg (f:=1) (v:=iv _) E6 tq H rfl (by decide) (by decide) rfl) N ⟨rfl,rfl⟩)
 | 2,_=>
  obtain⟨r,M,_,I,z⟩:=GS w Q R;exact nQ (f:=2) (x':={x with a:=r }) (vs:=[iv r]) (ds:=[i64 r]) B C g H ⟨by have:=I.le;omega,I.top⟩ Z (show 2+1<=15 by decide) rfl rfl u rfl (fun N=>abe G z (kg (f:=2) (v:=iv _) E6 tq H rfl (by decide) (by decide) rfl) N ⟨rfl,rfl⟩)
 | 3,_=>
  obtain⟨r,M,⟨_,p,O,_⟩,z⟩:=aR (n:=9) w Q (by omega) (by omega);exact nQ (f:=3) (x':={x with b:=an .i64 (ofNat r - 1)}) (vs:=[iv (an .i64 (ofNat r - 1))]) (ds:=[i64 (an .i64 (ofNat r - 1))]) B C g H ⟨by omega,O⟩ Z (show 3+1<=15 by decide) rfl rfl u rfl (fun N=>abd G z (kg (f:=3) (v:=iv _) E6 tq H rfl (by decide) (by decide) rfl) N ⟨rfl,rfl⟩)
 | 4,_=>
  obtain⟨r,M,⟨ch,p,O,_⟩,z⟩:=aR (n:=14) w Q (by omega) (by omega);exact nQ (f:=4) (x':={x with im:=an .i64 (ofNat r - 2)}) (vs:=[iv (an .i64 (ofNat r - 2))]) (ds:=[i64 (an .i64 (ofNat r - 2))]) B C g H ⟨by omega,O⟩ Z (show 4+1<=15 by decide) rfl rfl ⟨u.1,u.2.1,u.2.2.1,u.2.2.2.1,by show -1000000<=an .i64 (ofNat r - 2)/\an .i64 (ofNat r - 2)<=1000000;rw[cQ];simp only[Int.ofNat_eq_natCast];rw[wrap_i64 (by omega) (by omega)];omega⟩ rfl (fun N=>abc G z (kg (f:=4) (v:=iv _) E6 tq H rfl (by decide) (by decide) rfl) N ⟨rfl,rfl⟩)
 | 5,_=>
  obtain⟨r,M,⟨a7,p,O,_⟩,z⟩:=aR (n:=11) w Q (by omega) (by omega);obtain⟨nm,ag⟩:=Bv a7;exact nQ (f:=5) (x':={x with nm:=nm }) (vs:=[.dat (sb nm)]) (ds:=[sb nm]) B C g H ⟨by omega,O⟩ Z (show 5+1<=15 by decide) rfl rfl u rfl (fun N=>abb G z (uB ag) (kg (f:=5) (v:=.dat (sb nm)) aam SM H rfl (by decide) (by decide) rfl) N ⟨rfl,rfl⟩)
 | 6,_=>
  obtain⟨r,M,⟨a7,p,O,_⟩,z⟩:=aR (n:=7) w Q (by omega) (by omega);obtain⟨zs,k4,hz,I,h7⟩:=LI (n:=9) (c:=r) w O (by omega) (by omega) (by omega);have bx:=a8.2.1;have o:=fE (a:=[]) (b:=zs) (by simp;omega);have h1:=fE (a:=x.ar) (b:=zs) (by omega);have h2:=fE (a:=[]) (b:=x.ar) (by simp;omega);rw[←List.map_append] at h1;have U:(gp j)[0+i*15+6]?=some (.dat (sx x.az (x.ar.map iN))):=by
   rw[Nat.zero_add,tF 6 Z (by decide)];rfl
  have cf:∀(V:List Int),V.length < 2000000->bh (.cells (bI (0+i*15+6) [.own (V.map iN)] (gp j)))=true->True:=fun _ _ _=>trivial
  have go:∀(V:List Int),V.length < 2000000->(bh (.cells (bI (0+i*15+6) [.own (V.map iN)] (gp j)))=true->
    cG ba 22 [.ptr (.out 1) (0+i*15+6),.own (V.map iN)] (some (.cells (gp j)))=some ⟨.undef,.set (.cells (bI (0+i*15+6) [.own (V.map iN)] (gp j)))⟩->
    S6 (l.map iN) (ofNat k1) (ofNat k4) (cA L s j.length (aG W)) (cA L s j.length (aG W)) (gp j) (bI (0+i*15+6) [.own (V.map iN)] (gp j)) (ofNat i) (0+i*15))->SpR l (.mk L s false j false W) k:=by
   intro V hw b3;refine nQ (f:=6) (x':={x with az:=true,ar:=V }) (vs:=[.own (V.map iN)]) (ds:=[.slice (V.map iN)]) B C g H ⟨by have:=I.le;omega,I.top⟩ Z (show 6+1<=15 by decide) rfl ?_ ⟨u.1,by show V.length < _;omega,u.2.2⟩ rfl
    (fun N=>b3 N (kg (f:=6) (v:=.own (V.map iN)) DC NO H rfl (by decide) (by decide) rfl))
   rw[←DH];obtain⟨op,dst,a,b,im,nm,az,ar,⟨k,tn,ix,la⟩,ck,ci,cs⟩:=x;rfl
  have cg:∀d,(gp j)[0+i*15+6]?=some (.dat d)->(∀es,d=.slice es∨d=nl->True)->True:=fun _ _ _=>trivial
  cases a4:x.ar with
  | nil=>
   rw[a4] at U
   cases be:x.az with
   | false=>
    rw[be] at U;exact go zs (by omega) (fun N hs=>aba G (vS (take:=false) DC yK U) z h7 o hs N ⟨rfl,rfl⟩)
   | true=>
    rw[be] at U;exact go zs (by omega) (fun N hs=>WJ G (VP DC yK U) z h7 o hs N ⟨rfl,rfl⟩)
  | cons y ys=>
   rw[a4] at U h1 h2;exact go (y::ys++zs) (by rw[a4] at bx;simp at bx ⊢;omega) (fun N hs=>WK G (VP DC yK U) h2 z h7 h1 hs N ⟨rfl,rfl⟩)
 | 7,_=>
  obtain⟨t,M,⟨T,ca⟩,I,z⟩:=Q6 hl R 2 (by omega) K Q;have b9:t.gN:=⟨by have:t.size<=81:=T;omega,ca⟩;have e:aY (.dat t.enc)=t.cells.map ac.dat:=rfl;have hs:=@kg _ _ Wd NM j i 7 (.dat t.enc) H (by rw[e,List.length_map];obtain⟨a,b,c,d⟩:=t;rfl) (by decide) (by decide) (by rw[e];exact abR t);rw[e] at hs;refine nQ (f:=7) (x':={x with ty:=t }) (vs:=t.cells.map ac.dat) (ds:=t.cells) B C g H ⟨by have:=I.le;omega,I.top⟩ Z (by rw[List.length_map];obtain⟨a,b,c,d⟩:=t;exact (show 7+4<=15 by decide)) (V5 t) ?_ ⟨b9,u.2.1,u.2.2⟩ (afR _) (fun N=>?_)
  ·obtain⟨op,dst,a,b,im,nm,az,ar,⟨k,tn,ix,la⟩,ck,ci,cs⟩:=x;obtain⟨k',ce,cb,cc⟩:=t;rfl
  obtain⟨k',ce,cb,cc⟩:=t;exact aa9 G z hs N ⟨rfl,rfl⟩
 | 8,_=>
  obtain⟨r,M,⟨_,p,O,_⟩,z⟩:=aR (n:=7) w Q (by omega) (by omega);obtain⟨r2,k4,⟨a7,d1,d2,_⟩,h7⟩:=aR (n:=4) w O (by omega) (by omega);obtain⟨r3,k5,⟨b8,E,F,_⟩,h8⟩:=aR (n:=6) w d2 (by omega) (by omega);obtain⟨nm,ag⟩:=ahV r3 b8;refine nQ (f:=11) (x':={x with ck:=ofNat r,ci:=an .i64 (ofNat r2 - 1),cs:=nm }) (vs:=[iv (ofNat r),iv (an .i64 (ofNat r2 - 1)),.dat (sb nm),.dat nl]) (ds:=[i64 (ofNat r),i64 (an .i64 (ofNat r2 - 1)),sb nm,nl]) B C g H ⟨by omega,F⟩ Z (show 11+4<=15 by decide) rfl ?_ ⟨u.1,u.2.1,List.mem_of_getElem? ag,by show -1000000<=an .i64 (ofNat r2 - 1)/\an .i64 (ofNat r2 - 1)<=1000000;rw[cQ];simp only[Int.ofNat_eq_natCast];rw[wrap_i64 (by omega) (by omega)];omega,u.2.2.2.2⟩ rfl
   (fun N=>aa8 G z h7 h8 (uB ag) (kg (f:=11) (v:=.dat (.agg [i64 (ofNat r),i64 (an .i64 (ofNat r2 - 1)),sb nm,nl])) SL L2 H rfl (by decide) (by decide) rfl) N ⟨rfl,rfl⟩)
  obtain⟨op,dst,a,b,im,nm,az,ar,⟨k,tn,ix,la⟩,ck,ci,cs⟩:=x;rfl
 | 9,_=>
  obtain⟨r,M,_,I,z⟩:=GS w Q R;exact a3 I (fun N=>aa7 G z ⟨rfl,rfl⟩)
 | 10,_=>
  obtain⟨r,M,_,I,z⟩:=GS w Q R;exact a3 I (fun N=>WO G z ⟨rfl,rfl⟩)
 | 11,_=>
  have a6:(j.take i).length=i:=by rw[List.length_take];omega
  have hw:=@S2 (.out 1) j.length i (by omega) (.tmp 144);rw[←a6] at hw;refine zc B C g H ⟨by omega,Q⟩ (ins2:=j.take i) (eds2:=W) ?_ (WN G (by rw[a6] at hw ⊢;exact hw) ⟨rfl,rfl⟩) ?_
  ·simp only[gM.ok];exact⟨fun y hy=>m.1 y (List.mem_of_mem_take hy),by omega,m.2.2.1,m.2.2.2⟩
  intro i' d D;have b6:i' < i:=by have:=(List.getElem?_eq_some_iff.1 D).1;rw[bH,a6] at this;exact this
  refine tE (l:=j) i' d ?_;rw[gR,List.getElem?_map,List.getElem?_take_of_lt b6] at D;rw[gR,List.getElem?_map];exact D
 | 12,_=>
  obtain⟨r,M,⟨_,p,O,_⟩,z⟩:=aR (n:=8) w Q (by omega) (by omega);obtain⟨c,k4,b5,I,h7⟩:=LL hl M O;obtain⟨p2,s2,iz,ins2,ez,eds2⟩:=c;obtain⟨bt,P,S,_,⟨bs,_⟩,_,_⟩:=b5;have P:ez=false:=P;have S:iz=false:=S;subst P S;have bs:2<=ins2.length:=bs;have bf:gM.enc (.mk p2 s2 false ins2 false eds2)=aN p2 s2 (sl (encI ins2)) (sl (aG eds2)):=by rw[←yS,←yS];rfl
  rw[bf] at h7;have A:=Sf (pre:=W) (x:=[.mk (an .i64 (ofNat r - 1)) ⟨[],0,.mk 0 [] 0 [],false,[]⟩ [] (.mk 0 [] 0 []) 0 (.mk p2 s2 false ins2 false eds2) []]) (by omega);have a5:ir [.mk (an .i64 (ofNat r - 1)) ⟨[],0,.mk 0 [] 0 [],false,[]⟩ [] (.mk 0 [] 0 []) 0 (.mk p2 s2 false ins2 false eds2) []]=[B0 (an .i64 (ofNat r - 1)) [] 0 0 [] 0 nl false nl [] 0 [] 0 nl 0 p2 s2 (sl (encI ins2)) (sl (aG eds2)) []]:=by
   have bk:gM.cells (.mk p2 s2 false ins2 false eds2)=[i64 p2,i64 s2,sl (encI ins2),sl (aG eds2)]:=ak.agg.inj bf;rw[ir,ir,fG.cells,bk];rfl
  rw[a5] at A;refine zc (p':=L) (s':=s) B C g H ⟨by have:=I.le;omega,I.top⟩ (ins2:=j) (eds2:=W++[[.mk (an .i64 (ofNat r - 1)) ⟨[],0,.mk 0 [] 0 [],false,[]⟩ [] (.mk 0 [] 0 []) 0 (.mk p2 s2 false ins2 false eds2) []]]) ?_ ?_ tE
  ·simp only[gM.ok];refine⟨m.1,m.2.1,by rw[List.length_append];simp;omega,Am m.2.2.2 ?_⟩;simp only[nj,Ss,fG.ok];exact⟨by simp,⟨⟨rz,cY,bt⟩,trivial⟩,trivial⟩
  exact WM G z h7 A ⟨rfl,rfl⟩
 | 13,_=>
  obtain⟨e,M,he,I,z⟩:=LJ hl K Q;have A:=Sf (pre:=W) (x:=[e]) (by omega);have b7:∃(ek:Int) (dn:List UInt8) (ar sk:Int) (sn:List UInt8) (al:Int) (da:ak) (ad:Bool) (df:ak) (fu:List UInt8) (tk:Int) (tn:List UInt8) (am:Int) (ta:ak) (pb cp cs:Int) (d1 d2:ak) (pk:List UInt8),e.enc=B0 ek dn ar sk sn al da ad df fu tk tn am ta pb cp cs d1 d2 pk/\dj da/\dj df/\dj ta/\dj d1/\dj d2:=by
   obtain⟨ek,⟨dn,ar,⟨sk,sn,al,sa⟩,ad,fl⟩,fu,⟨tk,tn,am,ta⟩,pb,⟨cp,cs,iz,b0,ez,a9⟩,pk⟩:=e;exact⟨ek,dn,ar,sk,sn,al,sl (ax sa),ad,sl (BZ fl),fu,tk,tn,am,sl (ax ta),pb,cp,cs,sx iz (encI b0),sx ez (aG a9),pk,rfl,dr _,dr _,dr _,dq _ _,dq _ _⟩
  have a5:ir [e]=[e.enc]:=by rw[ir,ir];rfl
  rw[a5] at A;obtain⟨ek,dn,ar,sk,sn,al,da,ad,df,fu,tk,tn,am,ta,pb,cp,cs,d1,d2,pk,b4,q1,q2,q3,q4,q5⟩:=b7;rw[b4] at A z;refine zc (p':=L) (s':=s) B C g H ⟨by have:=I.le;omega,I.top⟩ (ins2:=j) (eds2:=W++[[e]]) ?_ ?_ tE
  ·simp only[gM.ok];refine⟨m.1,m.2.1,by rw[List.length_append];simp;omega,Am m.2.2.2 ?_⟩;simp only[nj,Ss];exact⟨by simp,⟨he,trivial⟩,trivial⟩
  exact WL G z A ⟨rfl,rfl⟩
 | n+14,h=>omega
noncomputable def V0:Hints:=⟨bV,Ac,bi,rowsOf bi 20⟩
def TJ (c:List ac):Heap:=[(.loc 3,.cells (cC 0 0 nl nl)),(.loc 2,.cells c)]
def pQ (c:List ac):ab:=⟨[(5,iv 0),(3,.ptr (.loc 3) 0),(2,.ptr (.loc 2) 0)],TJ c,[],0⟩
def mB (c:List ac):ab:=⟨[(41,bv false),(5,iv 0),(3,.ptr (.loc 3) 0),(2,.ptr (.loc 2) 0)],TJ c,[],0⟩
def pO (c:List ac):ab:=⟨[(6,iv 0),(3,.ptr (.loc 3) 0),(2,.ptr (.loc 2) 0)],TJ c,[],0⟩
def mA (c:List ac):ab:=⟨[(60,bv false),(6,iv 0),(3,.ptr (.loc 3) 0),(2,.ptr (.loc 2) 0)],TJ c,[],0⟩
theorem ZN {sl:Int} {b:List ak} (h:aF 0 (ofNat a.length)=false) (e:T (.exit 0) ((mB (cC p sl (.slice a) (.slice b))).al dy)):KD (roundOf Tryz.f20 0) T ((pQ (cC p sl (.slice a) (.slice b))).al dy):=by
 exact aq [41] [] (H:=V0) (live:=jk) (ob h (oe e))
theorem ZJ {sl:Int} {b:List ak} (h:aF 0 (ofNat a.length)=false) (e:T (.exit 2) ((mA (cC p sl (.slice b) (.slice a))).al dy)):KD (roundOf Tryz.f20 1) T ((pO (cC p sl (.slice b) (.slice a))).al dy):=by
 exact aq [60] [] (H:=V0) (live:=jk) (ob h (oe e))
theorem adD {p sl:Int} {d c:List ak} {j k h i:Bool} (a:aB p 0=j) (b:aB sl 0=k) (f:aB (ofNat d.length) 0=h) (g:aB (ofNat c.length) 0=i) 
  (m:h=true->i=true->KD (.loop (roundOf Tryz.f20 0)) (fun e q=>e=.exit 0/\q=(mB (cC p sl (.slice d) (.slice c))).al dy) ((pQ (cC p sl (.slice d) (.slice c))).al dy))
  (n:h=true->i=true->KD (.loop (roundOf Tryz.f20 1)) (fun e q=>e=.exit 2/\q=(mA (cC p sl (.slice d) (.slice c))).al dy) ((pO (cC p sl (.slice d) (.slice c))).al dy)) :
  ae 20 [.dat (aN p sl (.slice d) (.slice c)),.dat (aN 0 0 nl nl)] (bv (j&&(k&&(h&&i)))):=by
 refine co [11,17,26,35] [] (x:=.of Tryz.f20 Ac jk) ?_;refine ox a ?_
 cases j
 ·exact fi
 refine ox b ?_
 cases k
 ·exact fi
 refine ox f ?_
 cases h
 ·exact fi
 refine ox g ?_
 cases i
 ·exact fi
 refine lo (m rfl rfl) ?_;rintro l s ⟨rfl,rfl⟩;refine⟨_,rfl,?_⟩;refine lo (n rfl rfl) ?_;rintro l s ⟨rfl,rfl⟩;refine⟨_,rfl,?_⟩;exact fi
theorem ZO {sl:Int} {dd:List ak} (h:aF 0 (ofNat a.length)=false) (e:T (.exit 0) ((mB (cC p sl (.slice a) nl)).al dy)):KD (roundOf Tryz.f20 0) T ((pQ (cC p sl (.slice a) nl)).al dy):=by
 exact aq [41] [] (H:=V0) (live:=jk) (ob h (oe e))
theorem ZK {sl:Int} {dd:List ak} (e:T (.exit 2) ((mA (cC p sl (.slice a) nl)).al dy)):KD (roundOf Tryz.f20 1) T ((pO (cC p sl (.slice a) nl)).al dy):=by
 refine aq [] [] (H:=V0) (live:=jk) ?_;exact oe e
theorem adE {p sl:Int} {c m:List ak} {g h d l:Bool} (a:aB p 0=g) (b:aB sl 0=h) (f:aB (ofNat c.length) 0=d) 
  (j:d=true->KD (.loop (roundOf Tryz.f20 0)) (fun e q=>e=.exit 0/\q=(mB (cC p sl (.slice c) nl)).al dy) ((pQ (cC p sl (.slice c) nl)).al dy))
  (k:d=true->KD (.loop (roundOf Tryz.f20 1)) (fun e q=>e=.exit 2/\q=(mA (cC p sl (.slice c) nl)).al dy) ((pO (cC p sl (.slice c) nl)).al dy)) :
  ae 20 [.dat (aN p sl (.slice c) nl),.dat (aN 0 0 nl nl)] (bv (g&&(h&&(d&&true)))):=by
 refine co [11,17,26] [] (x:=.of Tryz.f20 Ac jk) ?_;refine ox a ?_
 cases g
 ·exact fi
 refine ox b ?_
 cases h
 ·exact fi
 refine ox f ?_
 cases d
 ·exact fi
 refine lo (j rfl) ?_;rintro i s ⟨rfl,rfl⟩;refine⟨_,rfl,?_⟩;refine lo (k rfl) ?_;rintro i s ⟨rfl,rfl⟩;refine⟨_,rfl,?_⟩;exact fi
theorem ZP {sl:Int} {es:List ak} (e:T (.exit 0) ((mB (cC p sl nl (.slice a))).al dy)):KD (roundOf Tryz.f20 0) T ((pQ (cC p sl nl (.slice a))).al dy):=by
 refine aq [] [] (H:=V0) (live:=jk) ?_;exact oe e
theorem ZL {sl:Int} {es:List ak} (h:aF 0 (ofNat a.length)=false) (e:T (.exit 2) ((mA (cC p sl nl (.slice a))).al dy)):KD (roundOf Tryz.f20 1) T ((pO (cC p sl nl (.slice a))).al dy):=by
 exact aq [60] [] (H:=V0) (live:=jk) (ob h (oe e))
theorem adF {p sl:Int} {m c:List ak} {f h l d:Bool} (a:aB p 0=f) (b:aB sl 0=h) (g:aB (ofNat c.length) 0=d) 
  (j:d=true->KD (.loop (roundOf Tryz.f20 0)) (fun e q=>e=.exit 0/\q=(mB (cC p sl nl (.slice c))).al dy) ((pQ (cC p sl nl (.slice c))).al dy))
  (k:d=true->KD (.loop (roundOf Tryz.f20 1)) (fun e q=>e=.exit 2/\q=(mA (cC p sl nl (.slice c))).al dy) ((pO (cC p sl nl (.slice c))).al dy)) :
  ae 20 [.dat (aN p sl nl (.slice c)),.dat (aN 0 0 nl nl)] (bv (f&&(h&&(true&&d)))):=by
 refine co [11,17,35] [] (x:=.of Tryz.f20 Ac jk) ?_;refine ox a ?_
 cases f
 ·exact fi
 refine ox b ?_
 cases h
 ·exact fi
 refine ox g ?_
 cases d
 ·exact fi
 refine lo (j rfl) ?_;rintro i s ⟨rfl,rfl⟩;refine⟨_,rfl,?_⟩;refine lo (k rfl) ?_;rintro i s ⟨rfl,rfl⟩;refine⟨_,rfl,?_⟩;exact fi
theorem ZQ {sl:Int} {es dd:List ak} (e:T (.exit 0) ((mB (cC p sl nl nl)).al dy)):KD (roundOf Tryz.f20 0) T ((pQ (cC p sl nl nl)).al dy):=by
 refine aq [] [] (H:=V0) (live:=jk) ?_;exact oe e
theorem ZM {sl:Int} {es dd:List ak} (e:T (.exit 2) ((mA (cC p sl nl nl)).al dy)):KD (roundOf Tryz.f20 1) T ((pO (cC p sl nl nl)).al dy):=by
 refine aq [] [] (H:=V0) (live:=jk) ?_;exact oe e
theorem adG {p sl:Int} {l k:List ak} {c d i j:Bool} (a:aB p 0=c) (b:aB sl 0=d) 
  (g:KD (.loop (roundOf Tryz.f20 0)) (fun e q=>e=.exit 0/\q=(mB (cC p sl nl nl)).al dy) ((pQ (cC p sl nl nl)).al dy))
  (h:KD (.loop (roundOf Tryz.f20 1)) (fun e q=>e=.exit 2/\q=(mA (cC p sl nl nl)).al dy) ((pO (cC p sl nl nl)).al dy)) :
  ae 20 [.dat (aN p sl nl nl),.dat (aN 0 0 nl nl)] (bv (c&&(d&&(true&&true)))):=by
 refine co [11,17] [] (x:=.of Tryz.f20 Ac jk) ?_;refine ox a ?_
 cases c
 ·exact fi
 refine ox b ?_
 cases d
 ·exact fi
 refine lo g ?_;rintro f s ⟨rfl,rfl⟩;refine⟨_,rfl,?_⟩;refine lo h ?_;rintro f s ⟨rfl,rfl⟩;refine⟨_,rfl,?_⟩;exact fi
theorem th {n:Nat} (h:aB (ofNat n) 0=true):aF 0 (ofNat n)=false:=by
 rw[cN] at h
 have:(n:Int)=0:=by simpa using h
 rw[dA];simp only[decide_eq_false_iff_not,Int.ofNat_eq_natCast];omega
theorem uS {c:List ac} (h:∀{T:ej},T (.exit 0) ((mB c).al dy)->KD (roundOf Tryz.f20 0) T ((pQ c).al dy)) :
  KD (.loop (roundOf Tryz.f20 0)) (fun e q=>e=.exit 0/\q=(mB c).al dy) ((pQ c).al dy):=by
 refine bm (St:=fun _=>(pQ c).al dy) 0 (fun i a=>absurd a (by omega)) ?_ (i:=0) (Nat.le_refl _);exact h ⟨rfl,rfl⟩
theorem uR {c:List ac} (h:∀{T:ej},T (.exit 2) ((mA c).al dy)->KD (roundOf Tryz.f20 1) T ((pO c).al dy)) :
  KD (.loop (roundOf Tryz.f20 1)) (fun e q=>e=.exit 2/\q=(mA c).al dy) ((pO c).al dy):=by
 refine bm (St:=fun _=>(pO c).al dy) 0 (fun i a=>absurd a (by omega)) ?_ (i:=0) (Nat.le_refl _);exact h ⟨rfl,rfl⟩
noncomputable def JB:Hints:=⟨bV,zY,bi,rowsOf bi 39⟩
def za (c:List ac) (d n i:Int):ab:=⟨[(6,iv i),(5,iv n),(2,.ptr (.loc 2) 0),(1,iv d)],[(.loc 2,.cells c)],[],0⟩
def DK (c:List ac) (d n i:Int):ab:=⟨[(55,bv false),(6,iv i),(5,iv n),(2,.ptr (.loc 2) 0),(1,iv d)],[(.loc 2,.cells c)],[],0⟩
def nf (e:Int):ab:=⟨[(4,iv e)],[],[],0⟩
def rR (c:List ac) (d i:Int):ab:=⟨[(8,iv i),(2,.ptr (.loc 2) 0),(1,iv d)],[(.loc 2,.cells c)],[],0⟩
def vq (c:List ac) (d i:Int):ab:=⟨[(91,bv false),(8,iv i),(2,.ptr (.loc 2) 0),(1,iv d)],[(.loc 2,.cells c)],[],0⟩
def Cm (c:List ac) (d i k:Int):ab:=⟨[(9,iv k),(8,iv i),(2,.ptr (.loc 2) 0),(1,iv d)],[(.loc 2,.cells c)],[],0⟩
def Ii (c:List ac) (d i k:Int):ab:=⟨[(101,bv false),(9,iv k),(8,iv i),(2,.ptr (.loc 2) 0),(1,iv d)],[(.loc 2,.cells c)],[],0⟩
theorem aeJ {sl:Int} {e:List ak} {g:ak} (q:dj g) {f a b m:Int} {n:List UInt8} {j:ak} {l:Int} {t:List UInt8} {x:Int} {y:ak} {C I:Int} {c:List UInt8} (r:dj j) (s:dj y) {h:Bool} (o:aF i (ofNat e.length)=true)
  (u:ap ba 23 [.dat (.slice e),.dat (.flat (.int .i64 i))]=some ⟨.ref [i64 k,i64 f,i64 a,i64 b,i64 m,sb n,j,i64 l,sb t,i64 x,y,i64 C,i64 I,sb c,nl],.keep⟩) (V:ae 70 [.dat (aN p sl (.slice e) g),.dat (eH k f a b m n j l t x y C I c)] (bv h))
  (E:h=true->T .normal ((za (cC p sl (.slice e) g) d (ofNat e.length) (an .i64 (i+1))).al cK)) (F:h=false->T .ret ((nf 2).al cK)) :
  KD (roundOf Tryz.f39 0) T ((za (cC p sl (.slice e) g) d (ofNat e.length) i).al cK):=by
 have v:=@yv false k f a b m n _ l t x _ C I c r s;have w:=@aO false 2 p sl (.slice e) _ (.inr ⟨_,rfl⟩) q;clear q r s;refine aq [55] [58,62,63] (H:=JB) (live:=ka) (ob o (oo w (oo u (oo v (on V ?_)))))
 cases h
 ·exact oe (F rfl)
 exact oe (E rfl)
theorem abK {sl:Int} {b:List ak} {a:ak} {n:Int} (o:aF i n=false) (e:T (.exit 0) ((DK (cC p sl (.slice b) a) d n i).al cK)) :
  KD (roundOf Tryz.f39 0) T ((za (cC p sl (.slice b) a) d n i).al cK):=by
 exact aq [55] [] (H:=JB) (live:=ka) (ob o (oe e))
theorem aeK {sl:Int} {J:List ak} {m:Int} {x:List UInt8} {u B:Int} {C:List UInt8} {h:Int} {I:ak} {e:Bool} {N:ak} {y:List UInt8} {D:Int} {t:List UInt8} {j:Int} {Q:ak} {L n c:Int} {s w:ak} {A:List UInt8} (a:dj I) (b:dj N) (f:dj Q) (g:dj s) (G:dj w) {r q o z F:Bool} (W:aF k (ofNat l.length)=true)
  (R:ap ba 24 [.dat (.slice J),.dat (.flat (.int .i64 i))]=some ⟨.ref [.slice l],.keep⟩)
  (Y:ap ba 54 [.dat (.slice l),.dat (.flat (.int .i64 k))]=some ⟨.ref [i64 m,sb x,i64 u,i64 B,sb C,i64 h,I,bl e,N,sb y,i64 D,sb t,i64 j,Q,i64 L,i64 n,i64 c,s,w,sb A],.keep⟩)
  (k1:aF m 1=r) (K:aF 5 m=q) (M:aB m 2=o) (Z:ae 20 [.dat (aN n c s w),.dat (aN 0 0 nl nl)] (bv z)) (V:ae 39 [.dat (aN n c s w),iv (an .i64 (d+1))] (iv v)) (O:aB v 0=F)
  (U:(if o=true then F else (!(r||q)&&z))=true->T .normal ((Cm (cC p sl E (.slice J)) d i (an .i64 (k+1))).al cK))
  (t2:o=true->F=false->T .ret ((nf v).al cK)) (P:o=false->(!(r||q)&&z)=false->T .ret ((nf 2).al cK)) :
  KD (roundOf Tryz.f39 2) T ((Cm (cC p sl E (.slice J)) d i k).al cK):=by
 have q2:=@QK false m x u B C h _ e _ y D t j _ L n c _ _ A a b f g G;have q3:=@Vo 10 m x u B C h _ e _ y D t j _ L n c _ _ A a b f g G;have S:=@QL false 10 m x u B C h I e N y D t j Q L n c _ _ A g G;clear a b f g G;refine aq [101,114,121,125,129] [98,107,110,111,100010,116,133] (H:=JB) (live:=ka) (oo R (ob W (oo R (oo Y (oo q2 (oo q3 (ob M ?_)))))))
 cases o
 ·refine ob k1 ?_
  cases r
  ·refine ob K ?_
   cases q
   ·refine oo S (on Z ?_)
    cases z
    ·exact oe (P rfl rfl)
    exact oe (U rfl)
   exact oe (P rfl rfl)
  exact oe (P rfl rfl)
 refine oo S (on V (ox O ?_))
 cases F
 ·exact oe (t2 rfl rfl)
 exact oe (U rfl)
theorem abL {sl:Int} (b:aF k (ofNat l.length)=false)
  (c:ap ba 24 [.dat (.slice a),.dat (.flat (.int .i64 i))]=some ⟨.ref [.slice l],.keep⟩) (e:T (.exit 4) ((Ii (cC p sl E (.slice a)) d i k).al cK)) :
  KD (roundOf Tryz.f39 2) T ((Cm (cC p sl E (.slice a)) d i k).al cK):=by
 exact aq [101] [98] (H:=JB) (live:=ka) (oo c (ob b (oe e)))
theorem aeL {sl:Int} {z:Bool} (b:aF i (ofNat a.length)=true)
  (l:KD (.loop (roundOf Tryz.f39 2)) (fun e q=>(e=.exit 4/\z=true/\∃k,q=(Ii (cC p sl E (.slice a)) d i k).al cK)∨(e=.ret/\z=false/\q=(nf v).al cK)) ((Cm (cC p sl E (.slice a)) d i 0).al cK))
  (c:z=true->T .normal ((rR (cC p sl E (.slice a)) d (an .i64 (i+1))).al cK)) (f:z=false->T .ret ((nf v).al cK)) :
  KD (roundOf Tryz.f39 1) T ((rR (cC p sl E (.slice a)) d i).al cK):=by
 refine aq [91] [] (H:=JB) (live:=ka) (ob b ?_);refine lo l ?_;rintro g s (⟨rfl,rfl,⟨h,rfl⟩⟩|⟨rfl,rfl,rfl⟩)
 ·refine⟨_,rfl,?_⟩;exact oe (c rfl)
 refine⟨_,rfl,?_⟩;exact oe (f rfl)
theorem abM {sl:Int} (b:aF i (ofNat a.length)=false) (e:T (.exit 2) ((vq (cC p sl E (.slice a)) d i).al cK)) :
  KD (roundOf Tryz.f39 1) T ((rR (cC p sl E (.slice a)) d i).al cK):=by
 exact aq [91] [] (H:=JB) (live:=ka) (ob b (oe e))
theorem abN {sl:Int} (e:T (.exit 2) ((vq (cC p sl E nl) d 0).al cK)) :
  KD (roundOf Tryz.f39 1) T ((rR (cC p sl E nl) d 0).al cK):=by
 refine aq [] [] (H:=JB) (live:=ka) ?_;exact oe e
theorem abG {sl:Int} {es dd:List ak} {h m n o r t u f j g z a b c:Bool}
  (G:aF 40 d=h) (K:aF 200 sl=m) (I:aF p 0=r) (J:aF 6 p=t) (L:aF sl p=u) (M:aF 2000 (ofNat es.length)=n) (H:aF 2000 (ofNat dd.length)=o) (N:aB (ofNat es.length) 0=f)
  (l:f=false->KD (.loop (roundOf Tryz.f39 0)) (fun e q=>(e=.exit 0/\j=true/\∃i,q=(DK (cC p sl (.slice es) (.slice dd)) d (ofNat es.length) i).al cK)∨(e=.ret/\j=false/\q=(nf 2).al cK)) ((za (cC p sl (.slice es) (.slice dd)) d (ofNat es.length) 0).al cK)) {O:List ak} (C:f=false->ap ba 23 [.dat (.slice es),.dat (.flat (.int .i64 (an .i64 (ofNat es.length - 1))))]=some ⟨.ref (i64 k::O),.keep⟩)
  (D:aB k 12=a) (E:aB k 16=b) (F:aB k 19=c) (A:j=true->ae 71 [.dat (aN p sl (.slice es) (.slice dd))] (bv g))
  (y:h=false->KD (.loop (roundOf Tryz.f39 1)) (fun e q=>(e=.exit 2/\z=true/\∃i,q=(vq (cC p sl (.slice es) (.slice dd)) d i).al cK)∨(e=.ret/\z=false/\q=(nf v).al cK)) ((rR (cC p sl (.slice es) (.slice dd)) d 0).al cK)) :
  ae 39 [.dat (aN p sl (.slice es) (.slice dd)),iv d] (iv (nt h m n o r t u f j (a||(b||c)) g (if z=true then 0 else v))):=by
 have B:=@aO false 2 p sl (.slice es) (.slice dd) (.inr ⟨_,rfl⟩) (.inr ⟨_,rfl⟩);refine co [13,17,23,29,36,40,47,51,74,77,81] [70,84] (x:=.of Tryz.f39 zY ka) ?_;refine ob G ?_
 cases h
 ·refine ob K ?_
  cases m
  ·refine ob M ?_
   cases n
   ·refine ob H ?_
    cases o
    ·refine ob I ?_
     cases r
     ·refine ob J ?_
      cases t
      ·refine ob L ?_
       cases u
       ·refine ob N ?_
        cases f
        ·refine lo (l rfl) ?_;rintro w s (⟨rfl,rfl,⟨P,rfl⟩⟩|⟨rfl,rfl,rfl⟩)
         ·refine⟨_,rfl,?_⟩;refine oo (C rfl) (ox D ?_)
          cases a
          ·refine ox E ?_
           cases b
           ·refine ox F ?_
            cases c
            ·exact fi
            refine oo B (on (A rfl) ?_)
            cases g
            ·refine lo (y rfl) ?_;rintro w s (⟨rfl,rfl,⟨S,rfl⟩⟩|⟨rfl,rfl,rfl⟩) <;>
             ·refine⟨_,rfl,?_⟩;exact fi
            exact fi
           refine oo B (on (A rfl) ?_)
           cases g
           ·refine lo (y rfl) ?_;rintro w s (⟨rfl,rfl,⟨R,rfl⟩⟩|⟨rfl,rfl,rfl⟩) <;>
            ·refine⟨_,rfl,?_⟩;exact fi
           exact fi
          refine oo B (on (A rfl) ?_)
          cases g
          ·refine lo (y rfl) ?_;rintro w s (⟨rfl,rfl,⟨Q,rfl⟩⟩|⟨rfl,rfl,rfl⟩) <;>
           ·refine⟨_,rfl,?_⟩;exact fi
          exact fi
         refine⟨_,rfl,?_⟩;exact fi
        exact fi
       exact fi
      exact fi
     exact fi
    exact fi
   exact fi
  exact fi
 exact fi
theorem abH {p sl d:Int} {a P:List ak} {j n o O r t u g k h z b c f:Bool} {v:Int}
  (G:aF 40 d=j) (K:aF 200 sl=n) (H:aF p 0=r) (I:aF 6 p=t) (J:aF sl p=u) (M:aF 2000 (ofNat a.length)=o) (L:aB (ofNat a.length) 0=g)
  (l:g=false->KD (.loop (roundOf Tryz.f39 0)) (fun e q=>(e=.exit 0/\k=true/\∃i,q=(DK (cC p sl (.slice a) nl) d (ofNat a.length) i).al cK)∨(e=.ret/\k=false/\q=(nf 2).al cK)) ((za (cC p sl (.slice a) nl) d (ofNat a.length) 0).al cK))
  {m:Int} {N:List ak} (C:g=false->ap ba 23 [.dat (.slice a),.dat (.flat (.int .i64 (an .i64 (ofNat a.length - 1))))]=some ⟨.ref (i64 m::N),.keep⟩)
  (D:aB m 12=b) (E:aB m 16=c) (F:aB m 19=f) (A:k=true->ae 71 [.dat (aN p sl (.slice a) nl)] (bv h))
  (y:j=false->KD (.loop (roundOf Tryz.f39 1)) (fun e q=>(e=.exit 2/\z=true/\∃i,q=(vq (cC p sl (.slice a) nl) d i).al cK)∨(e=.ret/\z=false/\q=(nf v).al cK)) ((rR (cC p sl (.slice a) nl) d 0).al cK)) :
  ae 39 [.dat (aN p sl (.slice a) nl),iv d] (iv (nt j n o false r t u g k (b||(c||f)) h (if z=true then 0 else v))):=by
 have B:=@aO false 2 p sl (.slice a) nl (.inr ⟨_,rfl⟩) (.inl rfl);refine co [13,17,23,36,40,47,51,74,77,81] [70,84] (x:=.of Tryz.f39 zY ka) ?_;refine ob G ?_
 cases j
 ·refine ob K ?_
  cases n
  ·refine ob M ?_
   cases o
   ·refine ob H ?_
    cases r
    ·refine ob I ?_
     cases t
     ·refine ob J ?_
      cases u
      ·refine ob L ?_
       cases g
       ·refine lo (l rfl) ?_;rintro w s (⟨rfl,rfl,⟨Q,rfl⟩⟩|⟨rfl,rfl,rfl⟩)
        ·refine⟨_,rfl,?_⟩;refine oo (C rfl) (ox D ?_)
         cases b
         ·refine ox E ?_
          cases c
          ·refine ox F ?_
           cases f
           ·exact fi
           refine oo B (on (A rfl) ?_)
           cases h
           ·refine lo (y rfl) ?_;rintro w s (⟨rfl,rfl,⟨T,rfl⟩⟩|⟨rfl,rfl,rfl⟩) <;>
            ·refine⟨_,rfl,?_⟩;exact fi
           exact fi
          refine oo B (on (A rfl) ?_)
          cases h
          ·refine lo (y rfl) ?_;rintro w s (⟨rfl,rfl,⟨S,rfl⟩⟩|⟨rfl,rfl,rfl⟩) <;>
           ·refine⟨_,rfl,?_⟩;exact fi
          exact fi
         refine oo B (on (A rfl) ?_)
         cases h
         ·refine lo (y rfl) ?_;rintro w s (⟨rfl,rfl,⟨R,rfl⟩⟩|⟨rfl,rfl,rfl⟩) <;>
          ·refine⟨_,rfl,?_⟩;exact fi
         exact fi
        refine⟨_,rfl,?_⟩;exact fi
       exact fi
      exact fi
     exact fi
    exact fi
   exact fi
  exact fi
 exact fi
theorem abI {p sl d:Int} {t g:List ak} {a q r b c e f s u w z m n o:Bool} {v:Int}
  (h:aF 40 d=a) (K:aF 200 sl=q) (j:aF p 0=c) (k:aF 6 p=e) (l:aF sl p=f) (i:aF 2000 (ofNat g.length)=b) :
  ae 39 [.dat (aN p sl nl (.slice g)),iv d] (iv (nt a q false b c e f true false false false 0)):=by
 refine co [13,17,29,36,40,47] [] (x:=.of Tryz.f39 zY ka) ?_;refine ob h ?_
 cases a
 ·refine ob K ?_
  cases q
  ·refine ob i ?_
   cases b
   ·refine ob j ?_
    cases c
    ·refine ob k ?_
     cases e
     ·refine ob l ?_
      cases f <;>
      ·exact fi
     exact fi
    exact fi
   exact fi
  exact fi
 exact fi
theorem abJ {p sl d:Int} {s r:List ak} {a q m n b c e o t u z j k l:Bool} {v:Int}
  (f:aF 40 d=a) (K:aF 200 sl=q) (g:aF p 0=b) (h:aF 6 p=c) (i:aF sl p=e) :
  ae 39 [.dat (aN p sl nl nl),iv d] (iv (nt a q false false b c e true false false false 0)):=by
 refine co [13,17,36,40,47] [] (x:=.of Tryz.f39 zY ka) ?_;refine ob f ?_
 cases a
 ·refine ob K ?_
  cases q
  ·refine ob g ?_
   cases b
   ·refine ob h ?_
    cases c
    ·refine ob i ?_
     cases e <;>
     ·exact fi
    exact fi
   exact fi
  exact fi
 exact fi
theorem Iz (c:gM):ae 20 [.dat c.enc,.dat (aN 0 0 nl nl)] (bv c.zero):=by
 obtain⟨L,sl,k,d,j,i⟩:=c;have m:ofNat (encI d).length=ofNat d.length:=by rw[bH]
 have n:ofNat (aG i).length=ofNat i.length:=by rw[dJ]
 have l:∀(a b:ak),(a=.slice (encI d)∨(a=nl/\d=[]))->(b=.slice (aG i)∨(b=nl/\i=[]))->ae 20 [.dat (aN L sl a b),.dat (aN 0 0 nl nl)] (bv (gM.zero (.mk L sl k d j i))):=by
  rintro a b (rfl|⟨rfl,rfl⟩) (rfl|⟨rfl,rfl⟩)
  ·have:=@adD L sl (encI d) (aG i) _ _ _ _ rfl rfl rfl rfl (fun f g=>uS (fun e=>ZN (th f) e)) (fun f g=>uR (fun e=>ZJ (th g) e))
   rw[m,n] at this;exact this
  ·have:=@adE L sl (encI d) [] _ _ _ true rfl rfl rfl (fun f=>uS (fun e=>ZO (dd:=[]) (th f) e)) (fun f=>uR (fun e=>ZK (dd:=[]) e))
   rw[m] at this;exact this
  ·have:=@adF L sl [] (aG i) _ _ true _ rfl rfl rfl (fun g=>uS (fun e=>ZP (es:=[]) e)) (fun g=>uR (fun e=>ZL (es:=[]) (th g) e))
   rw[n] at this;exact this
  exact @adG L sl [] [] _ _ true true rfl rfl (uS (fun e=>ZQ (es:=[]) (dd:=[]) e)) (uR (fun e=>ZM (es:=[]) (dd:=[]) e))
 refine l (sx k (encI d)) (sx j (aG i)) ?_ ?_
 ·rcases jG k (encI d) with h|⟨h,o⟩
  ·exact .inl h
  refine .inr ⟨h,?_⟩
  cases d with
  | nil=>rfl
  | cons a r=>simp[encI] at o
 rcases jG j (aG i) with h|⟨h,o⟩
 ·exact .inl h
 refine .inr ⟨h,?_⟩
 cases i with
 | nil=>rfl
 | cons a r=>simp[aG] at o
theorem OY {p sl d:Int} {f:List Ins} {j:Bool} {g:List ak} (z:∀x∈f,x.gN) (N:f.length < 1000000) :
  KD (.loop (roundOf Tryz.f39 0)) (fun e q=>(e=.exit 0/\f.all (fun x=>iJ (ofNat f.length) (ofNat g.length) sl x)=true/\∃i,q=(DK (cC p sl (.slice (encI f)) (sx j g)) d (ofNat (encI f).length) i).al cK)∨(e=.ret/\f.all (fun x=>iJ (ofNat f.length) (ofNat g.length) sl x)=false/\q=(nf 2).al cK))
   ((za (cC p sl (.slice (encI f)) (sx j g)) d (ofNat (encI f).length) 0).al cK):=by
 have h:(encI f).length=f.length:=bH f;refine cV (St:=fun i=>(za (cC p sl (.slice (encI f)) (sx j g)) d (ofNat (encI f).length) (ofNat i)).al cK) (fun i=>f.all (fun x=>iJ (ofNat f.length) (ofNat g.length) sl x)=(f.drop i).all (fun x=>iJ (ofNat f.length) (ofNat g.length) sl x)) f.length ?_ ?_ (i:=0) (Nat.zero_le _) rfl
 ·intro i k l;have J:f[i]?=some f[i]:=List.getElem?_eq_getElem k;have r:f[i]∈f:=List.getElem_mem k;have D:(f.drop i).all (fun x=>iJ (ofNat f.length) (ofNat g.length) sl x)=(iJ (ofNat f.length) (ofNat g.length) sl f[i]&&(f.drop (i+1)).all (fun x=>iJ (ofNat f.length) (ofNat g.length) sl x)):=by rw[List.drop_eq_getElem_cons k];rfl
  generalize f[i]=x at J D r;rw[←l] at D;have y:an .i64 (ofNat i+1)=ofNat (i+1):=bb (by omega);have V:=@BQ p sl (encI f) g j _ (z x r);rw[h] at V;have o:=xn J;generalize iJ (ofNat f.length) (ofNat g.length) sl x=b at V D;obtain⟨F,v,a,B,m,n,s,u,⟨G,t,E,A⟩,C,I,c⟩:=x;refine aeJ (dq j g) (dq s (u.map iN)) (dr (ax A)) (br (by rw[h];exact k)) o V ?_ ?_
  ·rintro rfl;rw[y];exact⟨rfl,D⟩
  rintro rfl;exact .inr ⟨rfl,D,rfl⟩
 intro l;have w:f.all (fun x=>iJ (ofNat f.length) (ofNat g.length) sl x)=true:=by rw[l,List.drop_length];rfl
 exact abK (cj (by rw[h];omega)) (.inl ⟨rfl,w,_,rfl⟩)
def EdR (d:Nat) (e:fG):Prop:=match e with
 | .mk _ _ _ _ _ c _=>∀a:Int,a=an .i64 (ofNat d+1)->ae 39 [.dat c.enc,iv a] (iv (c.val (d+1)))
theorem OZ {p sl:Int} {E:ak} {d:Nat} {s:List (List fG)} {i:Nat} {l:List fG} (N:l.length < 1000000) (hi:s[i]?=some l) (V:∀e∈l,EdR d e) :
  KD (.loop (roundOf Tryz.f39 2)) (fun e q=>(e=.exit 4/\aB (uP l d) 0=true/\∃k,q=(Ii (cC p sl E (.slice (aG s))) (ofNat d) (ofNat i) k).al cK)∨(e=.ret/\aB (uP l d) 0=false/\q=(nf (uP l d)).al cK))
   ((Cm (cC p sl E (.slice (aG s))) (ofNat d) (ofNat i) 0).al cK):=by
 have m:(ir l).length=l.length:=xB l;have o:=VT hi;refine cV (St:=fun k=>(Cm (cC p sl E (.slice (aG s))) (ofNat d) (ofNat i) (ofNat k)).al cK) (fun k=>uP l d=uP (l.drop k) d) l.length ?_ ?_ (i:=0) (Nat.zero_le _) rfl
 ·intro k I j;have J:l[k]?=some l[k]:=List.getElem?_eq_getElem I;have U:l[k]∈l:=List.getElem_mem I;generalize l[k]=e at J U;rw[Hi J] at j;have K:=V e U;have G:=VS J;have hw:an .i64 (ofNat k+1)=ofNat (k+1):=bb (by omega);obtain⟨f,⟨dn,u,⟨sk,sn,R,sa⟩,x,fl⟩,fu,⟨tk,t,S,ta⟩,L,c,pk⟩:=e;have T:ae 39 [.dat c.enc,iv (an .i64 (ofNat d+1))] (iv (c.val (d+1))):=K _ rfl;have Y:=Iz c;rw[fG.yH] at j;generalize c.val (d+1)=v at T j;generalize c.zero=z at Y j;obtain⟨y,A,P,n,B,w⟩:=c;have H:ap ba _ [.dat (.slice (ir l)),.dat (.flat (.int .i64 (ofNat k)))]=some ⟨.ref [i64 f,sb dn,i64 u,i64 sk,sb sn,i64 R,Go.Proofs.YtmpmgmmcaghacaaGreatDoor.sl (ax sa),bl x,Go.Proofs.YtmpmgmmcaghacaaGreatDoor.sl (BZ fl),sb fu,i64 tk,sb t,i64 S,Go.Proofs.YtmpmgmmcaghacaaGreatDoor.sl (ax ta),i64 L,i64 y,i64 A,sx P (encI n),sx B (aG w),sb pk],.keep⟩:=G;have g:aB f 2=true->aF f 1=false/\aF 5 f=false:=by
   intro h;rw[cN] at h
   have:f=2:=by simpa using h
   subst this;exact⟨rfl,rfl⟩
  have O:ae 20 [.dat (aN y A (sx P (encI n)) (sx B (aG w))),.dat (aN 0 0 nl nl)] (bv z):=Y;have M:ae 39 [.dat (aN y A (sx P (encI n)) (sx B (aG w))),iv (an .i64 (ofNat d+1))] (iv v):=T;have W:uP l d=(if aB (sc (aF f 1) (aF 5 f) (aB f 2) z v) 0=true then uP (l.drop (k+1)) d else sc (aF f 1) (aF 5 f) (aB f 2) z v):=j;generalize C:aF f 1=r at W g;generalize D:aF 5 f=Q at W g;generalize F:aB f 2=Z at W g;refine aeK (dr _) (dr _) (dr _) (dq _ _) (dq _ _) (br (by rw[m];exact I)) o H C D F O M rfl ?_ ?_ ?_
  ·intro h;rw[hw];refine⟨rfl,?_⟩;rw[W]
   cases Z
   ·have h:(!(r||Q)&&z)=true:=h;simp only[Bool.and_eq_true,Bool.not_eq_true',Bool.or_eq_false_iff] at h;obtain⟨⟨rfl,rfl⟩,rfl⟩:=h
    have:sc false false false true v=0:=rfl
    rw[this];exact if_pos rfl
   obtain⟨rfl,rfl⟩:=g rfl;have h:aB v 0=true:=h
   have:sc false false true z v=v:=rfl
   rw[this,if_pos h]
  ·intro h b;subst h;obtain⟨rfl,rfl⟩:=g rfl;have e:sc false false true z v=v:=rfl;rw[e,b] at W
   have:uP l d=v:=W
   rw[this];exact .inr ⟨rfl,b,rfl⟩
  intro h b;subst h;have e:sc r Q false z v=2:=by
   unfold sc
   cases r <;> cases Q <;> cases z <;> simp_all
  rw[e] at W
  have:uP l d=2:=W
  rw[this];exact .inr ⟨rfl,rfl,rfl⟩
 intro j;rw[List.drop_length] at j;have a:aB (uP l d) 0=true:=by rw[j,uP];rfl
 exact abL (cj (by rw[m];omega)) o (.inl ⟨rfl,a,_,rfl⟩)
theorem O0 {p sl:Int} {E:ak} {d:Nat} {b:List (List fG)} (N:b.length < 1000000) (n:∀l∈b,l.length < 1000000) (V:∀l∈b,∀e∈l,EdR d e) :
  KD (.loop (roundOf Tryz.f39 1)) (fun e q=>(e=.exit 2/\aB (kB b d) 0=true/\∃i,q=(vq (cC p sl E (.slice (aG b))) (ofNat d) i).al cK)∨(e=.ret/\aB (kB b d) 0=false/\q=(nf (kB b d)).al cK))
   ((rR (cC p sl E (.slice (aG b))) (ofNat d) 0).al cK):=by
 have c:(aG b).length=b.length:=dJ b;refine cV (St:=fun k=>(rR (cC p sl E (.slice (aG b))) (ofNat d) (ofNat k)).al cK) (fun k=>kB b d=kB (b.drop k) d) b.length ?_ ?_ (i:=0) (Nat.zero_le _) rfl
 ·intro k g f;have J:b[k]?=some b[k]:=List.getElem?_eq_getElem g;have j:b[k]∈b:=List.getElem_mem g;generalize b[k]=l at J j;rw[Db J] at f;have o:an .i64 (ofNat k+1)=ofNat (k+1):=bb (by omega);have m:=@OZ p sl E d _ _ _ (n l j) J (V l j);refine aeL (br (by rw[c];exact g)) m ?_ ?_
  ·intro h;rw[o];refine⟨rfl,?_⟩;rw[f,h];rfl
  intro h;rw[h] at f
  have:kB b d=uP l d:=f
  rw[this];exact .inr ⟨rfl,h,rfl⟩
 intro f;rw[List.drop_length] at f;have a:aB (kB b d) 0=true:=by rw[f,kB];rfl
 exact abM (cj (by rw[c];omega)) (.inl ⟨rfl,a,_,rfl⟩)
theorem Ov (d:Int):(lU (eO d)).fin=(aB d 12||(aB d 16||aB d 19)):=by
 by_cases a:d=12
 ·subst a;rfl
 by_cases b:d=16
 ·subst b;rfl
 by_cases c:d=19
 ·subst c;rfl
 rw[Ks a b c,dL a,dL b,dL c];rfl
theorem DX {L sl:Int} {P k:Bool} {f:List Ins} {g:List (List fG)} {d:Nat} (hx:∀x∈f,x.gN) (N:f.length < 1000000) (U:g.length < 1000000) (hl:∀l∈g,l.length < 1000000)
  (V:d<=40->∀l∈g,∀e∈l,EdR d e) :
  ae 39 [.dat (gM.enc (.mk L sl P f k g)),iv (ofNat d)] (iv (gM.val (.mk L sl P f k g) d)):=by
 have s:ofNat (encI f).length=ofNat f.length:=by rw[bH]
 have b:ofNat (aG g).length=ofNat g.length:=by rw[dJ]
 have e0:gM.enc (.mk L sl P f k g)=aN L sl (sx P (encI f)) (sx k (aG g)):=rfl;rw[e0,gM.yH]
 rcases jG P (encI f) with G|⟨G,T⟩
 ·rw[G];have j:=@OY L sl (ofNat d) _ k (aG g) hx N;rw[b] at j;have K:∀Q:Bool,aB (ofNat f.length) 0=Q->∃(op:Int) (lc:List ak),(Q=false->ap ba 23 [.dat (.slice (encI f)),.dat (.flat (.int .i64 (an .i64 (ofNat (encI f).length - 1))))]=some ⟨.ref (i64 op::lc),.keep⟩)/\oC f=(aB op 12||(aB op 16||aB op 19)):=by
   intro Q D
   cases Q
   ·have w:0 < f.length:=by
     rcases Nat.eq_zero_or_pos f.length with h|h
     ·rw[h] at D;simp[cN] at D
     exact h
    have J:f[f.length - 1]?=some f[f.length - 1]:=List.getElem?_eq_getElem (by omega);have hw:an .i64 (ofNat (encI f).length - 1)=ofNat (f.length - 1):=by
     rw[s,cQ,show ofNat f.length - 1=ofNat (f.length - 1) by simp;omega];exact wrap_i64 (by show _<=((f.length - 1:Nat):Int);omega) (by show ((f.length - 1:Nat):Int)<=_;omega)
    have Z:oC f=(lU (eO f[f.length - 1].op)).fin:=by unfold oC;rw[J]
    generalize f[f.length - 1]=x at J Z;have H:=xn J;rw[←hw] at H;obtain⟨op,ad,a,b',m,n,az,u,⟨xk,t,ix,la⟩,C,I,c⟩:=x;exact⟨op,_,fun _=>H,Z.trans (Ov op)⟩
   have:f=[]:=by
    cases f with
    | nil=>rfl
    | cons a r=>exact absurd D (by simp[cN];omega)
   subst this;exact⟨0,[],fun h=>by simp at h,rfl⟩
  obtain⟨op,lc,O,y⟩:=K _ rfl;have o:∀Y:Bool,f.all (fun x=>iJ (ofNat f.length) (ofNat g.length) sl x)=Y->(Y=true->ae 71 [.dat (aN L sl (.slice (encI f)) (sx k (aG g)))] (bv (lO f))):=by
   intro Y s b;rw[b] at s;exact O7 (dq k (aG g)) (Gk s) N
  have hz:∀v:Int,(if aB v 0=true then (0:Int) else v)=v:=by
   intro v
   split
   ·rename_i h;rw[cN] at h;simpa using (beq_iff_eq.1 h).symm
   rfl
  rcases jG k (aG g) with z|⟨z,A⟩
  ·rw[z] at j o ⊢;have W:=fun D:aF 40 (ofNat d)=false=>@O0 L sl (.slice (encI f)) d _ U hl (V (Gy D))
   have:=abG (p:=L) (sl:=sl) (d:=ofNat d) (es:=encI f) (dd:=aG g) rfl rfl rfl rfl rfl (by rw[s]) (by rw[b]) (by rw[s]) (fun _=>j) O rfl rfl rfl (o _ rfl) W
   rw[hz,←y] at this;exact this
  rw[z] at j o ⊢;have B:g=[]:=by
   cases g with
   | nil=>rfl
   | cons a r=>simp[aG] at A
  subst B;have S:KD (.loop (roundOf Tryz.f39 1)) (fun e q=>(e=.exit 2/\true=true/\∃i,q=(vq (cC L sl (.slice (encI f)) nl) (ofNat d) i).al cK)∨(e=.ret/\true=false/\q=(nf 0).al cK)) ((rR (cC L sl (.slice (encI f)) nl) (ofNat d) 0).al cK):=by
   refine bm (St:=fun _=>(rR (cC L sl (.slice (encI f)) nl) (ofNat d) 0).al cK) 0 (fun i G=>absurd G (by omega)) ?_ (i:=0) (Nat.le_refl _);exact abN (.inl ⟨rfl,rfl,_,rfl⟩)
  have:=@abH L sl (ofNat d) (encI f) [] _ _ _ true _ _ _ _ _ _ _ _ _ _ _ rfl rfl rfl rfl rfl (by rw[s]) (by rw[s]) (fun _=>j) _ _ O rfl rfl rfl (o _ rfl) (fun _=>S)
  rw[←y] at this;exact this
 rw[G];have M:f=[]:=by
  cases f with
  | nil=>rfl
  | cons a r=>simp[encI] at T
 subst M;have hh:∀R:Bool,aF 2000 (ofNat g.length)=R->C0 d L sl [] g.length (kB g d)=nt (aF 40 (ofNat d)) (aF 200 sl) false R (aF L 0) (aF 6 L) (aF sl L) true false false false 0:=by
  intro R h;subst h;unfold C0 nt;have E:aB (ofNat ([]:List Ins).length) 0=true:=rfl;have F:aF 2000 (ofNat ([]:List Ins).length)=false:=rfl;rw[E,F];simp only[Bool.or_true,if_true]
 rw[hh _ rfl]
 rcases jG k (aG g) with z|⟨z,A⟩
 ·rw[z]
  have:=@abI L sl (ofNat d) [] (aG g) _ _ true _ _ _ _ true true true true true true true 0 rfl rfl rfl rfl rfl rfl
  rw[b] at this;exact this
 rw[z];have B:g=[]:=by
  cases g with
  | nil=>rfl
  | cons a r=>simp[aG] at A
 subst B;exact @abJ L sl (ofNat d) [] [] _ _ true true _ _ _ true true true true true true true 0 rfl rfl rfl rfl rfl
mutual
theorem nW:∀(c:gM) (d:Nat),c.ok->d<=41->ae 39 [.dat c.enc,iv (ofNat d)] (iv (c.val d))
 | .mk L sl z s w n,d,h,D=>by
  simp only[gM.ok] at h;obtain⟨o,b,f,g⟩:=h;exact DX o b f (fun l p=>(Al g l p).1) (fun m=>FW n d g m)
theorem FW:∀(l:List (List fG)) (d:Nat),nj l->d<=40->∀x∈l,∀e∈x,EdR d e
 | [],_,_,_,x,j,_,_=>by simp at j
 | a::r,d,h,D,x,j,e,i=>by
  simp only[nj] at h
  rcases List.mem_cons.1 j with j|j
  ·rw[j] at i;exact KF a d h.2.1 D e i
  exact FW r d h.2.2 D x j e i
theorem KF:∀(l:List fG) (d:Nat),Ss l->d<=40->∀e∈l,EdR d e
 | [],_,_,_,e,i=>by simp at i
 | a::r,d,h,D,e,i=>by
  simp only[Ss] at h
  rcases List.mem_cons.1 i with i|i
  ·rw[i];exact Tq a d h.1 D
  exact KF r d h.2 D e i
theorem Tq:∀(e:fG) (d:Nat),e.ok->d<=40->EdR d e
 | .mk v u y B L c A,d,h,D=>by
  simp only[fG.ok] at h;intro t k;have q:an .i64 (ofNat d+1)=ofNat (d+1):=bb (by omega);rw[k,q];exact nW c (d+1) h.2.2 (by omega)
end
theorem Vf {s:Int} {a b:ak} (c:dj a) (d:dj b) (h:ae 38 [.dat (aN p s a b),iv 1] (iv v)):ae 13 [.dat (aN p s a b)] (iv v):=by
 have e:=aS (p:=p) (s:=s) c d;have f:=aO false 1 (p:=p) (s:=s) c d;clear c d;refine co [] [1,3] (x:=.of Tryz.f13 P8 QG) ?_;exact oo e (oo f (on h fi))
theorem aal {s:Int} {a b:ak} (c:dj a) (d:dj b) (h:ae 39 [.dat (aN p s a b),iv 1] (iv v)):ae 14 [.dat (aN p s a b)] (iv v):=by
 have e:=aS (p:=p) (s:=s) c d;have f:=aO false 1 (p:=p) (s:=s) c d;clear c d;refine co [] [1,3] (x:=.of Tryz.f14 P8 QG) ?_;exact oo e (oo f (on h fi))
theorem SH:ae 12 [] (bv true):=dE _ _ _ _ _ (by kernel_rfl)
def VX (l:List ak) (K:Int) (m:List ak) (a:Int):Heap:=[(.out 1,.cells [.dat (.slice m),iv a]),(.out 0,.cells [.dat (.slice l),iv K])]
theorem abW (l:List ak) (K:Int) (m:List ak):KC 10 [.dat (.slice m)] (cW l K) 1 (XQ ⟨.ptr (.out 1) 0,VX l K m 0,2⟩):=by
 have b:=ay.frame (V2 (l:=m)) (fun o=>o) (heap:=cW l K) (rest:=cW l K) (next:=1) (List.Perm.refl _) rfl rfl rfl rfl;refine b.mono ?_;rintro f c d ⟨g,a,e,⟨rfl,rfl,rfl⟩,rfl,rfl,rfl⟩;exact⟨rfl,rfl,rfl⟩
theorem S1 {m:List ak} {K c:Int} {d b:ak} (h:KC 11 [cq,.dat d] (cW m k) 1 (XQ ⟨.dat b,cW m c,1⟩)) :
  KC 11 [.ptr (.out 1) 0,.dat d] (VX l K m k) 2 (XQ ⟨.dat b,VX l K m c,2⟩):=by
 have E:∀(k:Int) (ρ:Nat->Nat),ρ 0=1->jJ ρ (cW m k)=[(.out 1,.cells [.dat (.slice m),iv k])]:=by
  intro k ρ o;simp[cW,jJ,pW,wX,il,fx,o]
 have e:=ay.frame h (fun _=>1) (heap:=VX l K m k) (rest:=cW l K) (next:=2) (by rw[E _ _ rfl];exact List.Perm.refl _) (by rfl) (by simp[gH,cW,BS,gZ,iq]) (by rfl) rfl;refine e.mono ?_;rintro j f g ⟨n,a,i,⟨rfl,rfl,rfl⟩,rfl,rfl,rfl⟩;rw[E _ _ rfl];exact⟨rfl,rfl,rfl⟩
theorem XY {m:List ak} {s h K B:Int} {c d j n:ak} {t u:List UInt8} {q:Bool} (v:dj c) (w:dj d) (y:dj j) (z:dj n)
  (e:KC 9 [cq,iv 2] (cW l 0) 1 (XQ ⟨.dat (aN p s c d),cW l K,1⟩)) (J:KC 11 [cq,.dat (aN p s c d)] (cW m 0) 1 (XQ ⟨.dat (aN h i j n),cW m B,1⟩)) (k:ae 12 [] (bv true))
  (a:ae 17 [.dat (aN p s c d)] (.dat (sb t))) (b:ae 18 [.dat (aN p s c d)] (.dat (sb t))) (f:ae 17 [.dat (aN h i j n)] (.dat (sb u))) (g:ae 18 [.dat (aN h i j n)] (.dat (sb u))) (I:jP t t=true) (A:jP u u=true)
  (G:ae 19 [.dat (aN p s c d),.dat (aN h i j n)] (bv q)) (C:ae 20 [.dat (aN p s c d),.dat (aN h i j n)] (bv q)) (D:ae 19 [.dat (aN p s c d),.dat (aN p s c d)] (bv true)) (E:ae 19 [.dat (aN h i j n),.dat (aN h i j n)] (bv true)) (N:(q==q)=true) :
  ae 5 [.dat (.slice l),.dat (.slice m)] (bv true):=by
 have H:=V2 (l:=l);have F:=abW l K m;have hS:=S1 (l:=l) (K:=K) J;have o:=aO false 5 (p:=p) (s:=s) v w;have L:=yY 5 (p:=p) (s:=s) v w;have r:=aO false 6 (p:=h) (s:=i) y z;have M:=yY 6 (p:=h) (s:=i) y z;clear v w y z;refine co [20,27] [100005,12,100006,16,18,23,25,30,31,33,34,39,40,44,45] (x:=.of Tryz.f5 al1 alq) ?_;refine oh H (oh e (oo L (oo o (oh F (oh hS (oo M (on k (oo o (oo o (on a (on b (ob I (oo r (oo r (on f (on g (ob A (oo o (oo r (oo o (oo r (on G (on C ?_)))))))))))))))))))))))
 cases q <;>
 ·exact oo o (oo o (on D (oo r (oo r (on E fi)))))
theorem XX {l m:List Int} (B:l.length < 10000000) (C:m.length < 10000000) (_hr:inR l) (p:inR m):ae 5 [.dat (.slice (l.map iN)),.dat (.slice (m.map iN))] (bv true):=by
 obtain⟨c,K,J,_,e⟩:=Uz B 0 (Nat.zero_le _);obtain⟨d,M,D,_,E⟩:=Uw C p J (Nat.zero_le _);have a:=J.ok;have u:=agq c d a;have v:=aht c d a;have w:=agq c c a;have x:=agq d d D;rw[ahB] at w x;generalize c.eqC d=q at u v;obtain⟨L,s,F,r,z,y⟩:=c;obtain⟨G,H,t,f,g,b⟩:=d;have A:=oW _ 1 a (by omega);have hR:=nW _ 1 a (by omega);have o:=oW _ 1 D (by omega);have n:=nW _ 1 D (by omega);have h:=dq F (encI r);have i:=dq z (aG y);have j:=dq t (encI f);have k:=dq g (aG b);exact XY h i j k e E SH (ahF a (Vf h i A)) (ahs a (aal h i hR)) (ahF D (Vf j k o)) (ahs D (aal j k n)) (A4 _) (A4 _) u v w x (by cases q <;> rfl)
end Go.Proofs.YtmpmgmmcaghacaaGreatDoor
namespace Go.Proofs.YtmpmgmmcaghacaaGreatDoor
open Go.ChangeShapes Go.WideShapes Go.ChangeAt Go.RowKit Go.Tp
open Go.ChangeMaps (open_string shut_string)
theorem own:ownKnob Tryz.prog.godebug=none:=by kernel_rfl
theorem kids:Kids Tryz.prog (· < Tryz.prog.types.size):=kids_rows (by kernel_rfl) (by kernel_rfl)
theorem full:∀t e,t < Tryz.prog.types.size->Tryz.prog.underlying t=some (.slice e)->0 < Tryz.prog.cellsOf e:=slices_full_of Tryz.prog (by kernel_rfl)
theorem MV:Tryz.prog.globalNamed "telpher/typeterm.reserved"=some 8:=by kernel_rfl
theorem GO:Tryz.prog.globalNamed "telpher/ir.primitives"=some 4:=by kernel_rfl
theorem X6:Tryz.prog.globalNamed "telpher/telmake.Funcs"=some 2:=by kernel_rfl
theorem GP:Tryz.prog.globalNamed "telpher/telmake.fieldNames"=some 3:=by kernel_rfl
theorem Q2:Tryz.prog.globalNamed "telpher/telmake.strings"=some 1:=by kernel_rfl
theorem JC:Tryz.prog.globalNamed "telpher/telmake.leafNames"=some 5:=by kernel_rfl
theorem M1:Tryz.prog.globalNamed "telpher/telmake.anyNames"=some 0:=by kernel_rfl
theorem Q4 {W:World} (h:laidMetH Tryz.prog Rows.irFormatUptoRow.laid W):∀g cs,cM g=some cs->aed W xl g cs:=by
 have h':laidMet Tryz.prog Rows.irFormatUptoRow.laid W:=h;obtain⟨ps,⟨_,_,_,_,_,_,_,_,_,_,⟨_,_,_,_,_,_,_,_,_,_,⟨g2,t2,cs2,fu2,p2,q2,a2,b2,c2,d2,⟨g3,t3,cs3,fu3,p3,q3,a3,b3,c3,d3,⟨g4,t4,cs4,fu4,p4,q4,a4,b4,c4,d4,⟨g5,t5,cs5,fu5,p5,q5,a5,b5,c5,d5,⟨g6,t6,cs6,fu6,p6,q6,a6,b6,c6,d6,⟨g7,t7,cs7,fu7,p7,q7,a7,b7,c7,d7,⟨g8,t8,cs8,fu8,p8,q8,a8,b8,c8,d8,⟨g9,t9,cs9,fu9,p9,q9,a9,b9,c9,d9,_,_⟩,_⟩,_⟩,_⟩,_⟩,_⟩,_⟩,_⟩,_⟩,_⟩,_⟩:=h';intro g cs hg;unfold cM at hg
 split at hg
 ·obtain rfl:=Option.some.inj hg;exact jm (l:=HH) M1 (by kernel_rfl) Tryz.underlying70 Tryz.underlying9 (by kernel_rfl) (by decide) ⟨g9,t9,cs9,fu9,p9,a9,b9,c9,d9⟩
 ·obtain rfl:=Option.some.inj hg;exact jm (l:=H5) Q2 (by kernel_rfl) Tryz.underlying70 Tryz.underlying9 (by kernel_rfl) (by decide) ⟨g7,t7,cs7,fu7,p7,a7,b7,c7,d7⟩
 ·obtain rfl:=Option.some.inj hg;exact jm (l:=AP) X6 (by kernel_rfl) Tryz.underlying70 Tryz.underlying9 (by kernel_rfl) (by decide) ⟨g5,t5,cs5,fu5,p5,a5,b5,c5,d5⟩
 ·obtain rfl:=Option.some.inj hg;exact jm (l:=JK) GP (by kernel_rfl) Tryz.underlying70 Tryz.underlying9 (by kernel_rfl) (by decide) ⟨g6,t6,cs6,fu6,p6,a6,b6,c6,d6⟩
 ·obtain rfl:=Option.some.inj hg;exact jm (l:=Po) GO (by kernel_rfl) Tryz.underlying70 Tryz.underlying9 (by kernel_rfl) (by decide) ⟨g4,t4,cs4,fu4,p4,a4,b4,c4,d4⟩
 ·obtain rfl:=Option.some.inj hg;exact jm (l:=lq) JC (by kernel_rfl) Tryz.underlying70 Tryz.underlying9 (by kernel_rfl) (by decide) ⟨g8,t8,cs8,fu8,p8,a8,b8,c8,d8⟩
 ·obtain rfl:=Option.some.inj hg;exact jm (l:=tG) MV (by kernel_rfl) Tryz.underlying70 Tryz.underlying9 (by kernel_rfl) (by decide) ⟨g3,t3,cs3,fu3,p3,a3,b3,c3,d3⟩
 ·obtain rfl:=Option.some.inj hg;exact ajP ahO (by kernel_rfl) Tryz.underlying206 Tryz.underlying162 (by kernel_rfl) (by kernel_rfl) (by kernel_rfl) ⟨g2,t2,cs2,fu2,p2,a2,b2,c2,d2⟩
 simp at hg
theorem one_le {H:Type} (d:DataW H):1<=Rows.uptoBulk d:=by
 cases d with
 | lit l=>cases l <;> simp[Rows.uptoBulk]
 | nil=>simp[Rows.uptoBulk]
 | ptr d=>simp[Rows.uptoBulk]
 | slice b c=>simp[Rows.uptoBulk]
 | agg parts=>simp[Rows.uptoBulk]
 | iface t d=>simp[Rows.uptoBulk]
 | map a=>simp[Rows.uptoBulk]
 | held h=>simp[Rows.uptoBulk]
theorem Gx {H:Type}:∀l:List (DataW H),l.length<=Rows.uptoBulkAll l
 | []=>by simp[Rows.uptoBulkAll]
 | x::r=>by
  have a:=one_le x;have b:=Gx r;simp only[Rows.uptoBulkAll,List.length_cons];omega
theorem CL {H:Type} {d:DataW H}:∀{l:List (DataW H)},d∈l->Rows.uptoBulk d<=Rows.uptoBulkAll l
 | [],h=>by cases h
 | x::r,h=>by
  simp only[Rows.uptoBulkAll]
  rcases List.mem_cons.1 h with e|h
  ·subst e;omega
  have:=CL h;omega
theorem LW {H:Type} {l c rest:List (DataW H)} (k:Rows.uptoSmall H l=true) (d:DataW.slice c rest∈l):c.length<=1048576:=by
 have h:Rows.uptoBulkAll l<=1048576:=of_decide_eq_true k;have a:=CL d;have b:=Gx c;simp only[Rows.uptoBulk] at a;omega
set_option maxRecDepth 100000 in
theorem RD (H:Type) (enc:TypeId×Value->H) (W:World) (base:Nat) (args:Array Value) (ds gs:List (DataW H)) (before:List MemPlace)
  (hval:∀(j:Nat) t v,Tryz.f5.params[j]?=some t->args[j]?=some v->Value.okWide Tryz.prog W .any base t v)
  (hW:DataW.Whole enc Tryz.prog Tryz.f5.params.toList Rows.irFormatSpec.vars false W args.toList ds gs before) (hL:laidMetH Tryz.prog Rows.irFormatUptoRow.laid W) (hk:Rows.uptoSmall H (ds++gs)=true) :
  Calls Tryz.prog 5 args W fun e W'=>∃v,e=.returned v/\Rows.irFormatSpec.post enc Tryz.prog Tryz.f5 false true false false W args v W':=by
 have hW':=hW;obtain⟨p,q,hA0,hV,rfl,hfz,hnd⟩:=hW;have hA:DataW.TrodAll enc Tryz.prog W 0 (fun _=>true) true Tryz.f5.params.toList args.toList ds p:=hA0;have hAk:=hA;rw[Tryz.params5] at hA hval;obtain⟨v0,vs0,d0,ds0,p0,q0,hargs,rfl,rfl,h0,r0⟩:=trodAll_cons hA;obtain⟨v1,vs1,d1,ds1,p1,q1,rfl,rfl,rfl,h1,r1⟩:=trodAll_cons r0;obtain⟨rfl,rfl,rfl⟩:=trodAll_nil r1;obtain rfl:args=#[v0,v1]:=by cases args;simp_all
 obtain⟨rfl,rfl⟩:=trodVars_none hV;obtain⟨a0,len0,cap0,hv0⟩:=okWide_slice Tryz.underlying22 (hval 0 22 v0 rfl rfl);obtain⟨l0,hd0,hi0,hr0⟩:=Dq (outs fun _=>none) Tryz.underlying22 Tryz.underlying3 (by kernel_rfl) (by rw[hv0];rfl) h0;obtain⟨a1,len1,cap1,hv1⟩:=okWide_slice Tryz.underlying22 (hval 1 22 v1 rfl rfl);obtain⟨l1,hd1,hi1,hr1⟩:=Dq (outs fun _=>none) Tryz.underlying22 Tryz.underlying3 (by kernel_rfl) (by rw[hv1];rfl) h1;have hb0:l0.length<=1048576:=by
  rcases hd0 with⟨_,e⟩|⟨els,rest,e,e2⟩
  ·rw[e];simp
  rw[←e2];exact LW (rest:=rest) hk (by rw[←e];simp)
 have hb1:l1.length<=1048576:=by
  rcases hd1 with⟨_,e⟩|⟨els,rest,e,e2⟩
  ·rw[e];simp
  rw[←e2];exact LW (rest:=rest) hk (by rw[←e];simp)
 refine (wz W (args:=[v0,v1]) (aD (b1:=[]) (b2:=[]) (hr0 (by unfold lim;omega)) (aD (b1:=[]) (b2:=[]) (hr1 (by unfold lim;omega)) aP)) (XX (by omega:l0.length < 10000000) (by omega:l1.length < 10000000) hi0 hi1 ) rfl (Q4 hL)).mono ?_;rintro e W' ⟨rfl,hkp,hB⟩;refine⟨_,rfl,?_⟩;simp only[List.append_nil] at hW' hAk;have hargs:=DataW.TrodAll.respare (spare':=fun b=>decide (b < W.heap.size)) kids full (by rw[Tryz.params5];decide) (yL hB hAk) (fun p hp=>by simpa using hW'.lt p hp);refine⟨_,_,_,[],_,[],hW',?_,hargs,rfl,World.keptBut_mono (fun p hp=>hp.elim) hkp,fun h=>by cases h⟩;exact trodAll_cons_mk (shut_bool Tryz.underlying4 _) trodAll_mk0
def aaT:List Int:=[0,1,28,2,29,14,24,3,30,22,20,15,25,17,4,8,31,27,13,23,21,19,16,7,26,12,18,6,11,5,10,9]
def aaS:List Int:=[0,1,56,2,57,49,28,3,61,58,42,50,38,29,17,4,62,47,59,36,45,43,51,22,53,39,33,30,24,18,12,5,63,55,48,27,60,41,37,16,46,35,44,21,52,32,23,11,54,26,40,15,34,20,31,10,25,14,19,9,13,8,7,6]
def Pp:Nat->Int->List Int
 | 0,_=>[]
 | n+1,k=>k::Pp n (k*10)
noncomputable def vT (j:Os):World:=
 let N:=(World.settled Tryz.prog j).heap.size
 let strs (l:List (List UInt8)):Array Value:=(l.map fun b=>Value.string ⟨⟨b⟩⟩).toArray
 let m:=World.holding Tryz.prog j ⟨#[.cells (strs tG) 9,.cells (strs Po) 9,.cells (strs AP) 9,.cells (strs JK) 9,.cells (strs H5) 9,.cells (strs lq) 9,.cells (strs HH) 9],#[],[]⟩
 let d (h:Array Obj) (g:Nat) (c:Array Value):Array Obj:=h.modify g fun
  | .cells _ t frozen=>.cells c t frozen
  | o=>o
 let ints (k:IntKind) (l:List Int):Array Value:=(l.map fun i=>Value.int k i).toArray
 let a:=d m.heap 8 #[.slice (some ⟨N,0,none⟩) 5 5]
 let n:=d a 4 #[.slice (some ⟨N+1,0,none⟩) 8 8]
 let f:=d n 2 #[.slice (some ⟨N+2,0,none⟩) 3 3]
 let p:=d f 3 #[.slice (some ⟨N+3,0,none⟩) 6 6]
 let G:=d p 1 #[.slice (some ⟨N+4,0,none⟩) 6 6]
 let q:=d G 5 #[.slice (some ⟨N+5,0,none⟩) 4 4]
 let r:=d q 0 #[.slice (some ⟨N+6,0,none⟩) 11 11]
 let s:=d r 6 (ints .u64 (Pp 20 1))
 let u:=d s 9 (ints .u8 aaT)
 let e:=d u 10 (ints .u8 aaS)
 {m with heap:=e }
theorem QN (b:Os) (a:Array Value):laidMet Tryz.prog Rows.irFormatUptoRow.laid ((vT b).forCall (fun _ _=>0) ⟨#[],a,[]⟩).memory:=
 laidMet_of_run' 16 (by kernel_rfl) (by kernel_rfl)
noncomputable def NG:Array Value:=#[.slice none 0 0,.slice none 0 0]
theorem reads (c:Os) {H:Type} (b:TypeId×Value->H):∃a,DataW.whole b Tryz.prog ((vT c).forCall (fun _ _=>0) ⟨#[],NG,[]⟩).memory Tryz.f5.params.toList Rows.irFormatSpec.vars false NG.toList 8=some ([.nil,.nil],[],a):=
 ⟨[],by kernel_rfl⟩
set_option maxRecDepth 100000 in
theorem lifted (os:Os) (started:os.Started) (H:Type) (enc:TypeId×Value->H) (F:Stop.Interp) :
  ReturnsInHanded {} Tryz.checked os 5 .any ((Rows.OpenSpec.upto Rows.irFormatSpec).preRow enc Tryz.prog Tryz.f5 Rows.irFormatUptoRow.domain false Rows.irFormatUptoRow.laid) (((Rows.OpenSpec.upto Rows.irFormatSpec).at F).post enc Tryz.prog Tryz.f5 false true false false):=by
 obtain⟨places,hx⟩:=reads os enc;refine returnsInHanded_of_row (C:=Tryz.checked) (s:=(Rows.OpenSpec.upto Rows.irFormatSpec)) own started (by kernel_rfl) Tryz.func5
  (witness_row_atRef (enc:=enc) (C:=Tryz.checked) false (vT os) NG rfl (by kernel_rfl) (by kernel_rfl) (by kernel_rfl)
   (OpenSpec.preRow_of_cond 8 hx (by kernel_rfl) (fun k hk=>by cases hk;kernel_rfl) (by kernel_rfl) (QN os _))) ?_
 intro W base args ds gs before hval hW _ hcond _ hL _ _;exact RD H enc W base args ds gs before hval hW hL (hcond _ rfl)
end Go.Proofs.YtmpmgmmcaghacaaGreatDoor
namespace Go.Proofs.YtmpmgmmcaghacaaGreatDoor
open Go.ChangeShapes Go.WideShapes Go.ChangeAt Go.RowKit Go.Tp
set_option maxHeartbeats 4000000 in
set_option maxRecDepth 100000 in
theorem said:Rows.IrFormatUptoSaid:=
 OpenClaim.holds_of_cond 5 Tryz.f5 rfl rfl rfl rfl rfl rfl rfl ⟨rfl,rfl,rfl,rfl,rfl⟩ rfl rfl rfl rfl rfl (by as_aux_lemma=>kernel_rfl) Tryz.func5 (by as_aux_lemma=>kernel_rfl)
  (of_decide_eq_true (by as_aux_lemma=>kernel_rfl)) (by unfold Func.isWrapper;first|(rw[if_pos (by decide +kernel)];kernel_rfl)|(rw[if_neg (by decide +kernel)];exact⟨rfl,rfl⟩))
  (fun os started H enc _ F=>by rw[OpenClaim.pre_eq_preRow];exact lifted os started H enc F)
set_option maxRecDepth 100000 in
theorem plain (f:FuncId) (fn:Func) (hf:Tryz.pinned.checked.prog.funcNamed "telpher/tellaw13.IrFormat"=some f) (hfn:Tryz.pinned.checked.prog.funcs[f]?=some fn) :
  false=Tryz.pinned.checked.prog.looks []/\∀(j:Nat) t,fn.params[j]?=some t->Tryz.pinned.checked.prog.wantsStandIn t=false:=by
 obtain rfl:f=5:=Option.some.inj ((show Tryz.prog.funcNamed "telpher/tellaw13.IrFormat"=some 5 by kernel_rfl).symm.trans hf) |>.symm
 obtain rfl:fn=Tryz.f5:=(Option.some.inj (Tryz.func5.symm.trans hfn)).symm;refine⟨by kernel_rfl,fun j t ht=>?_⟩;rw[Tryz.params5] at ht;have w22:Tryz.prog.wantsStandIn 22=false:=by kernel_rfl
 have hm:=Array.mem_of_getElem? ht;have key:∀x∈([22,22]:List Nat),x=22:=by decide
 have h3:=key t (by simpa using hm)
 rcases h3 with rfl
 ·exact w22
theorem irFormat_card:Rows.IrFormatUptoCardSaid:=
 Claim7.holds_tied_plain_at .later [] _ _ _ _ said (fun _ h=>by cases h) (by kernel_rfl) (fun _ h=>by cases h) irFormatUpto_row_tie rfl ⟨rfl,rfl⟩ (by kernel_rfl) rfl plain (by kernel_rfl)
end Go.Proofs.YtmpmgmmcaghacaaGreatDoor
#print axioms Go.Proofs.YtmpmgmmcaghacaaGreatDoor.irFormat_card
