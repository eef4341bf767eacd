/- Part 7 of what the last text proves. -/
import Derived.Shelf.SlGeneric
import Derived.Ground.SlgnProg
import Derived.Ground.SlgmProg
import Derived.Shelf.SortM.Plain
import Derived.Shelf.SortM.SortNone
import Derived.Shelf.SlLaysE
import Derived.Shelf.SlLaysE0
import Derived.Shelf.SlicesE.Compact
import Derived.Test.YtmpmgmmcaghacaaGreatDoorProg
import Derived.Test.YtmpmgmmcaghacaaGreatDoorQ06
set_option linter.unusedVariables false
set_option linter.unusedSimpArgs false
open Int (ofNat)
set_option maxRecDepth 100000
set_option maxHeartbeats 4000000
namespace Go.Proofs.YtmpmgmmcaghacaaGreatDoor
open Go.Tp
noncomputable abbrev bc:=Tryz.f68.ntmps
noncomputable abbrev nk:=Tryz.f61.ntmps
noncomputable abbrev bO:=Tryz.f71.ntmps
noncomputable abbrev cO:=Tryz.f38.ntmps
noncomputable abbrev agf:=Tryz.f18.ntmps
noncomputable abbrev agh:=Tryz.f17.ntmps
theorem W6:BE 16:=by
 intro p sl j W h g e a b m n k t i y C I c f O z2 P Q R S T U V t1 z t3 d w1 w5 w3 w4 Z i1 i2 i3 i4 i5 i6 w2 A u2 B D E F J K G H v1 L v3 x1 x2 x5 x3 x4 y0 y1 y2 y3 y4 y5 M N l;have o:=fa 16 (by decide) (by decide);clear M N;have q:=@aS p sl (.slice j) _ (.inr ⟨_,rfl⟩) h;have r:=@bw (ofNat 16) e a b m n (.slice g) k t i _ C I c (.inr ⟨_,rfl⟩) f;have u:=@aO false 2 p sl (.slice j) _ (.inr ⟨_,rfl⟩) h;have v:=@bD false 3 (ofNat 16) e a b m n (.slice g) k t i y C I c (.inr ⟨_,rfl⟩) f;have w:=@bg false 3 (ofNat 16) e a b m n (.slice g) k t i y C I c (.inr ⟨_,rfl⟩) f;clear h f;refine co [24,43,53,63,74,136] [2,3,83,95,114] (x:=.of Tryz.f70 cF bu) ?_;refine oo q (oo r (on o (ox A ?_)))
 cases O
 ·exact fi
 refine ox B ?_
 cases P
 ·exact fi
 refine ox D ?_
 cases Q
 ·exact fi
 refine ox E ?_
 cases R
 ·exact fi
 refine ob F ?_
 cases S
 ·refine oo v (on K (on G ?_))
  cases T
  ·exact fi
  refine oo w (on H ?_)
  cases U
  ·exact fi
  refine oo u (on L ?_)
  cases z
  ·exact fi
  refine ob J ?_
  cases V
  ·refine lo l ?_;rintro Y s (⟨rfl,rfl,rfl⟩|⟨rfl,rfl,rfl⟩) <;>
   ·refine⟨_,rfl,?_⟩;exact fi
  exact fi
 exact fi
theorem W7:BF 16:=by
 intro p sl i U g e a b m n k t h y C I c f O z2 P Q R z6 S T z9 t1 w t3 d w1 w5 w3 w4 W Y Z i3 i4 i5 i6 w2 z u2 A B D E H K J F G v1 L v3 x1 x2 x5 x3 x4 y0 y1 y2 y3 y4 y5 M N l;subst E H K;have j:=fa 16 (by decide) (by decide);clear M N;have o:=@aS p sl (.slice i) _ (.inr ⟨_,rfl⟩) g;have q:=@bw (ofNat 16) e a b m n nl k t h _ C I c (.inl rfl) f;have r:=@aO false 2 p sl (.slice i) _ (.inr ⟨_,rfl⟩) g;have u:=@bD false 3 (ofNat 16) e a b m n nl k t h y C I c (.inl rfl) f;have v:=@bg false 3 (ofNat 16) e a b m n nl k t h y C I c (.inl rfl) f;clear g f;refine co [24,43,53,63] [2,3,83,95,114] (x:=.of Tryz.f70 cF bu) ?_;refine oo o (oo q (on j (ox z ?_)))
 cases O
 ·exact fi
 refine ox A ?_
 cases P
 ·exact fi
 refine ox B ?_
 cases Q
 ·exact fi
 refine ox D ?_
 cases R
 ·exact fi
 refine oo u (on J (on F ?_))
 cases S
 ·exact fi
 refine oo v (on G ?_)
 cases T
 ·exact fi
 refine oo r (on L ?_)
 cases w
 ·exact fi
 refine lo l ?_;rintro V s ⟨rfl,rfl⟩;refine⟨_,rfl,?_⟩;exact fi
theorem W4:BE 17:=by
 intro p sl i d2 W g e a b m n k t h y C I c f N O P z4 Q R S T U t1 t2 t3 d w1 w5 w3 w4 Y i1 i2 i3 i4 i5 B w2 D E F u4 G H L M J K v1 v2 v3 x1 x2 x5 x3 x4 v y1 y2 y3 y4 y5 w z l;have A:=fa 17 (by decide) (by decide)
 rcases W with rfl|⟨j,rfl⟩
 ·obtain rfl:=z rfl;clear w z;have o:=@aS p sl (.slice i) nl (.inr ⟨_,rfl⟩) (.inl rfl);have q:=@bw (ofNat 17) e a b m n (.slice g) k t h _ C I c (.inr ⟨_,rfl⟩) f;have Z:=@aO false 2 p sl (.slice i) nl (.inr ⟨_,rfl⟩) (.inl rfl);have r:=@bD false 3 (ofNat 17) e a b m n (.slice g) k t h y C I c (.inr ⟨_,rfl⟩) f;have u:=@bg false 3 (ofNat 17) e a b m n (.slice g) k t h y C I c (.inr ⟨_,rfl⟩) f;clear f;refine co [24,33,43,63,74,136,237,244] [2,3,83,95] (x:=.of Tryz.f70 cF bu) ?_;refine oo o (oo q (on A (ox D ?_)))
  cases N
  ·exact fi
  refine ox E ?_
  cases O
  ·exact fi
  refine ox F ?_
  cases P
  ·exact fi
  refine ox G ?_
  cases Q
  ·exact fi
  refine ob H ?_
  cases R
  ·refine oo r (on M (on J ?_))
   cases S
   ·exact fi
   refine oo u (on K ?_)
   cases T
   ·exact fi
   refine ob L ?_
   cases U
   ·refine lo l ?_;rintro V s (⟨rfl,rfl,rfl⟩|⟨rfl,rfl,rfl⟩)
    ·refine⟨_,rfl,?_⟩;refine ox v ?_
     cases B
     ·exact ob v fi
     exact fi
    refine⟨_,rfl,?_⟩;exact fi
   exact fi
  exact fi
 have y8:=w j rfl;clear w z;have o:=@aS p sl (.slice i) (.slice j) (.inr ⟨_,rfl⟩) (.inr ⟨_,rfl⟩);have q:=@bw (ofNat 17) e a b m n (.slice g) k t h _ C I c (.inr ⟨_,rfl⟩) f;have Z:=@aO false 2 p sl (.slice i) (.slice j) (.inr ⟨_,rfl⟩) (.inr ⟨_,rfl⟩);have r:=@bD false 3 (ofNat 17) e a b m n (.slice g) k t h y C I c (.inr ⟨_,rfl⟩) f;have u:=@bg false 3 (ofNat 17) e a b m n (.slice g) k t h y C I c (.inr ⟨_,rfl⟩) f;clear f;refine co [24,33,43,63,74,136,237,244] [2,3,83,95] (x:=.of Tryz.f70 cF bu) ?_;refine oo o (oo q (on A (ox D ?_)))
 cases N
 ·exact fi
 refine ox E ?_
 cases O
 ·exact fi
 refine ox F ?_
 cases P
 ·exact fi
 refine ox G ?_
 cases Q
 ·exact fi
 refine ob H ?_
 cases R
 ·refine oo r (on M (on J ?_))
  cases S
  ·exact fi
  refine oo u (on K ?_)
  cases T
  ·exact fi
  refine ob L ?_
  cases U
  ·refine lo l ?_;rintro V s (⟨rfl,rfl,rfl⟩|⟨rfl,rfl,rfl⟩)
   ·refine⟨_,rfl,?_⟩;refine ox v ?_
    cases Y
    ·refine ob y8 ?_
     cases B <;>
     ·exact fi
    exact fi
   refine⟨_,rfl,?_⟩;exact fi
  exact fi
 exact fi
theorem W5:BF 17:=by
 intro p sl h Z R e a b m n k t g y C I c f K L M z4 N z6 O P z9 t1 t2 t3 d w1 w5 w3 w4 S i1 i2 i3 i4 i5 A w2 B D E u4 F U V W J G H v1 v2 v3 x1 x2 x5 x3 x4 u y1 y2 y3 y4 y5 v w l;subst U V W;have z:=fa 17 (by decide) (by decide)
 rcases R with rfl|⟨i,rfl⟩
 ·obtain rfl:=w rfl;clear v w;have j:=@aS p sl (.slice h) nl (.inr ⟨_,rfl⟩) (.inl rfl);have o:=@bw (ofNat 17) e a b m n nl k t g _ C I c (.inl rfl) f;have T:=@aO false 2 p sl (.slice h) nl (.inr ⟨_,rfl⟩) (.inl rfl);have q:=@bD false 3 (ofNat 17) e a b m n nl k t g y C I c (.inl rfl) f;have r:=@bg false 3 (ofNat 17) e a b m n nl k t g y C I c (.inl rfl) f;clear f;refine co [24,33,43,63,237,244] [2,3,83,95] (x:=.of Tryz.f70 cF bu) ?_;refine oo j (oo o (on z (ox B ?_)))
  cases K
  ·exact fi
  refine ox D ?_
  cases L
  ·exact fi
  refine ox E ?_
  cases M
  ·exact fi
  refine ox F ?_
  cases N
  ·exact fi
  refine oo q (on J (on G ?_))
  cases O
  ·exact fi
  refine oo r (on H ?_)
  cases P
  ·exact fi
  refine lo l ?_;rintro Q s ⟨rfl,rfl⟩;refine⟨_,rfl,?_⟩;refine ox u ?_
  cases A
  ·exact ob u fi
  exact fi
 have Y:=v i rfl;clear v w;have j:=@aS p sl (.slice h) (.slice i) (.inr ⟨_,rfl⟩) (.inr ⟨_,rfl⟩);have o:=@bw (ofNat 17) e a b m n nl k t g _ C I c (.inl rfl) f;have T:=@aO false 2 p sl (.slice h) (.slice i) (.inr ⟨_,rfl⟩) (.inr ⟨_,rfl⟩);have q:=@bD false 3 (ofNat 17) e a b m n nl k t g y C I c (.inl rfl) f;have r:=@bg false 3 (ofNat 17) e a b m n nl k t g y C I c (.inl rfl) f;clear f;refine co [24,33,43,63,237,244] [2,3,83,95] (x:=.of Tryz.f70 cF bu) ?_;refine oo j (oo o (on z (ox B ?_)))
 cases K
 ·exact fi
 refine ox D ?_
 cases L
 ·exact fi
 refine ox E ?_
 cases M
 ·exact fi
 refine ox F ?_
 cases N
 ·exact fi
 refine oo q (on J (on G ?_))
 cases O
 ·exact fi
 refine oo r (on H ?_)
 cases P
 ·exact fi
 refine lo l ?_;rintro Q s ⟨rfl,rfl⟩;refine⟨_,rfl,?_⟩;refine ox u ?_
 cases S
 ·refine ob Y ?_
  cases A <;>
  ·exact fi
 exact fi
theorem W2:BE 18:=by
 intro p sl j V h g e a b m n k t i y C I c f M N O P Q R S T U t1 t2 t3 d w1 w5 w3 w4 Y Z i2 i3 i4 i5 i6 w2 w z A B D E H J F G v1 v2 v3 x1 x2 x5 x3 x4 y0 y1 y2 y3 y4 y5 K L l;have o:=fa 18 (by decide) (by decide);clear K L;have q:=@aS p sl (.slice j) _ (.inr ⟨_,rfl⟩) h;have r:=@bw (ofNat 18) e a b m n (.slice g) k t i _ C I c (.inr ⟨_,rfl⟩) f;have q3:=@aO false 2 p sl (.slice j) _ (.inr ⟨_,rfl⟩) h;have u:=@bD false 3 (ofNat 18) e a b m n (.slice g) k t i y C I c (.inr ⟨_,rfl⟩) f;have v:=@bg false 3 (ofNat 18) e a b m n (.slice g) k t i y C I c (.inr ⟨_,rfl⟩) f;clear h f;refine co [24,33,43,53,63,74,136] [2,3,83,95] (x:=.of Tryz.f70 cF bu) ?_;refine oo q (oo r (on o (ox w ?_)))
 cases M
 ·exact fi
 refine ox z ?_
 cases N
 ·exact fi
 refine ox A ?_
 cases O
 ·exact fi
 refine ox B ?_
 cases P
 ·exact fi
 refine ox D ?_
 cases Q
 ·exact fi
 refine ob E ?_
 cases R
 ·refine oo u (on J (on F ?_))
  cases S
  ·exact fi
  refine oo v (on G ?_)
  cases T
  ·exact fi
  refine ob H ?_
  cases U
  ·refine lo l ?_;rintro W s (⟨rfl,rfl,rfl⟩|⟨rfl,rfl,rfl⟩) <;>
   ·refine⟨_,rfl,?_⟩;exact fi
  exact fi
 exact fi
theorem W3:BF 18:=by
 intro p sl i T g e a b m n k t h y C I c f M N O P Q z6 R S z9 t1 t2 t3 d w1 w5 w3 w4 V W Y Z i4 i5 i6 w2 v w z A B D G J H E F v1 v2 v3 x1 x2 x5 x3 x4 y0 y1 y2 y3 y4 y5 K L l;subst D G J;have j:=fa 18 (by decide) (by decide);clear K L;have o:=@aS p sl (.slice i) _ (.inr ⟨_,rfl⟩) g;have q:=@bw (ofNat 18) e a b m n nl k t h _ C I c (.inl rfl) f;have q3:=@aO false 2 p sl (.slice i) _ (.inr ⟨_,rfl⟩) g;have r:=@bD false 3 (ofNat 18) e a b m n nl k t h y C I c (.inl rfl) f;have u:=@bg false 3 (ofNat 18) e a b m n nl k t h y C I c (.inl rfl) f;clear g f;refine co [24,33,43,53,63] [2,3,83,95] (x:=.of Tryz.f70 cF bu) ?_;refine oo o (oo q (on j (ox v ?_)))
 cases M
 ·exact fi
 refine ox w ?_
 cases N
 ·exact fi
 refine ox z ?_
 cases O
 ·exact fi
 refine ox A ?_
 cases P
 ·exact fi
 refine ox B ?_
 cases Q
 ·exact fi
 refine oo r (on H (on E ?_))
 cases R
 ·exact fi
 refine oo u (on F ?_)
 cases S
 ·exact fi
 refine lo l ?_;rintro U s ⟨rfl,rfl⟩;refine⟨_,rfl,?_⟩;exact fi
theorem W0:BE 19:=by
 intro p sl j W h g e a b m n k t i y C I c f O z2 P Q R S T U V t1 z t3 d w1 w5 w3 w4 Z i1 i2 i3 i4 i5 i6 w2 A u2 B D E F J K G H v1 L v3 x1 x2 x5 x3 x4 y0 y1 y2 y3 y4 y5 M N l;have o:=fa 19 (by decide) (by decide);clear M N;have q:=@aS p sl (.slice j) _ (.inr ⟨_,rfl⟩) h;have r:=@bw (ofNat 19) e a b m n (.slice g) k t i _ C I c (.inr ⟨_,rfl⟩) f;have u:=@aO false 2 p sl (.slice j) _ (.inr ⟨_,rfl⟩) h;have v:=@bD false 3 (ofNat 19) e a b m n (.slice g) k t i y C I c (.inr ⟨_,rfl⟩) f;have w:=@bg false 3 (ofNat 19) e a b m n (.slice g) k t i y C I c (.inr ⟨_,rfl⟩) f;clear h f;refine co [24,43,53,63,74,136] [2,3,83,95,114] (x:=.of Tryz.f70 cF bu) ?_;refine oo q (oo r (on o (ox A ?_)))
 cases O
 ·exact fi
 refine ox B ?_
 cases P
 ·exact fi
 refine ox D ?_
 cases Q
 ·exact fi
 refine ox E ?_
 cases R
 ·exact fi
 refine ob F ?_
 cases S
 ·refine oo v (on K (on G ?_))
  cases T
  ·exact fi
  refine oo w (on H ?_)
  cases U
  ·exact fi
  refine oo u (on L ?_)
  cases z
  ·exact fi
  refine ob J ?_
  cases V
  ·refine lo l ?_;rintro Y s (⟨rfl,rfl,rfl⟩|⟨rfl,rfl,rfl⟩) <;>
   ·refine⟨_,rfl,?_⟩;exact fi
  exact fi
 exact fi
theorem W1:BF 19:=by
 intro p sl i U g e a b m n k t h y C I c f O z2 P Q R z6 S T z9 t1 w t3 d w1 w5 w3 w4 W Y Z i3 i4 i5 i6 w2 z u2 A B D E H K J F G v1 L v3 x1 x2 x5 x3 x4 y0 y1 y2 y3 y4 y5 M N l;subst E H K;have j:=fa 19 (by decide) (by decide);clear M N;have o:=@aS p sl (.slice i) _ (.inr ⟨_,rfl⟩) g;have q:=@bw (ofNat 19) e a b m n nl k t h _ C I c (.inl rfl) f;have r:=@aO false 2 p sl (.slice i) _ (.inr ⟨_,rfl⟩) g;have u:=@bD false 3 (ofNat 19) e a b m n nl k t h y C I c (.inl rfl) f;have v:=@bg false 3 (ofNat 19) e a b m n nl k t h y C I c (.inl rfl) f;clear g f;refine co [24,43,53,63] [2,3,83,95,114] (x:=.of Tryz.f70 cF bu) ?_;refine oo o (oo q (on j (ox z ?_)))
 cases O
 ·exact fi
 refine ox A ?_
 cases P
 ·exact fi
 refine ox B ?_
 cases Q
 ·exact fi
 refine ox D ?_
 cases R
 ·exact fi
 refine oo u (on J (on F ?_))
 cases S
 ·exact fi
 refine oo v (on G ?_)
 cases T
 ·exact fi
 refine oo r (on L ?_)
 cases w
 ·exact fi
 refine lo l ?_;rintro V s ⟨rfl,rfl⟩;refine⟨_,rfl,?_⟩;exact fi
theorem WY:BE 20:=by
 intro p sl j V h g e a b m n k t i y C I c f N O P z4 Q R S T U t1 t2 t3 d w1 w5 w3 w4 Y q Z i3 i4 i5 i6 w2 z A B u4 D E H J F G v1 v2 v3 x1 x2 x5 x3 x4 y0 K y2 y3 y4 y5 L M l;have o:=fa 20 (by decide) (by decide);clear L M;have r:=@aS p sl (.slice j) _ (.inr ⟨_,rfl⟩) h;have u:=@bw (ofNat 20) e a b m n (.slice g) k t i _ C I c (.inr ⟨_,rfl⟩) f;have q3:=@aO false 2 p sl (.slice j) _ (.inr ⟨_,rfl⟩) h;have v:=@bD false 3 (ofNat 20) e a b m n (.slice g) k t i y C I c (.inr ⟨_,rfl⟩) f;have w:=@bg false 3 (ofNat 20) e a b m n (.slice g) k t i y C I c (.inr ⟨_,rfl⟩) f;clear h f;refine co [24,33,43,63,74,136,251] [2,3,83,95] (x:=.of Tryz.f70 cF bu) ?_;refine oo r (oo u (on o (ox z ?_)))
 cases N
 ·exact fi
 refine ox A ?_
 cases O
 ·exact fi
 refine ox B ?_
 cases P
 ·exact fi
 refine ox D ?_
 cases Q
 ·exact fi
 refine ob E ?_
 cases R
 ·refine oo v (on J (on F ?_))
  cases S
  ·exact fi
  refine oo w (on G ?_)
  cases T
  ·exact fi
  refine ob H ?_
  cases U
  ·refine lo l ?_;rintro W s (⟨rfl,rfl,rfl⟩|⟨rfl,rfl,rfl⟩)
   ·refine⟨_,rfl,?_⟩;refine ox K ?_
    cases q <;>
    ·exact fi
   refine⟨_,rfl,?_⟩;exact fi
  exact fi
 exact fi
theorem WZ:BF 20:=by
 intro p sl i T g e a b m n k t h y C I c f N O P z4 Q z6 R S z9 t1 t2 t3 d w1 w5 w3 w4 V o W Y Z i5 i6 w2 w z A u4 B D G J H E F v1 v2 v3 x1 x2 x5 x3 x4 y0 K y2 y3 y4 y5 L M l;subst D G J;have j:=fa 20 (by decide) (by decide);clear L M;have q:=@aS p sl (.slice i) _ (.inr ⟨_,rfl⟩) g;have r:=@bw (ofNat 20) e a b m n nl k t h _ C I c (.inl rfl) f;have q3:=@aO false 2 p sl (.slice i) _ (.inr ⟨_,rfl⟩) g;have u:=@bD false 3 (ofNat 20) e a b m n nl k t h y C I c (.inl rfl) f;have v:=@bg false 3 (ofNat 20) e a b m n nl k t h y C I c (.inl rfl) f;clear g f;refine co [24,33,43,63,251] [2,3,83,95] (x:=.of Tryz.f70 cF bu) ?_;refine oo q (oo r (on j (ox w ?_)))
 cases N
 ·exact fi
 refine ox z ?_
 cases O
 ·exact fi
 refine ox A ?_
 cases P
 ·exact fi
 refine ox B ?_
 cases Q
 ·exact fi
 refine oo u (on H (on E ?_))
 cases R
 ·exact fi
 refine oo v (on F ?_)
 cases S
 ·exact fi
 refine lo l ?_;rintro U s ⟨rfl,rfl⟩;refine⟨_,rfl,?_⟩;refine ox K ?_
 cases o <;>
 ·exact fi
theorem WW:BE 21:=by
 intro p sl j V h g e a b m n k t i y C I c f M N O P Q R S T U t1 t2 t3 d w1 w5 w3 w4 Y Z i2 i3 i4 i5 i6 w2 w z A B D E H J F G v1 v2 v3 x1 x2 x5 x3 x4 y0 y1 y2 y3 y4 y5 K L l;have o:=fa 21 (by decide) (by decide);clear K L;have q:=@aS p sl (.slice j) _ (.inr ⟨_,rfl⟩) h;have r:=@bw (ofNat 21) e a b m n (.slice g) k t i _ C I c (.inr ⟨_,rfl⟩) f;have q3:=@aO false 2 p sl (.slice j) _ (.inr ⟨_,rfl⟩) h;have u:=@bD false 3 (ofNat 21) e a b m n (.slice g) k t i y C I c (.inr ⟨_,rfl⟩) f;have v:=@bg false 3 (ofNat 21) e a b m n (.slice g) k t i y C I c (.inr ⟨_,rfl⟩) f;clear h f;refine co [24,33,43,53,63,74,136] [2,3,83,95] (x:=.of Tryz.f70 cF bu) ?_;refine oo q (oo r (on o (ox w ?_)))
 cases M
 ·exact fi
 refine ox z ?_
 cases N
 ·exact fi
 refine ox A ?_
 cases O
 ·exact fi
 refine ox B ?_
 cases P
 ·exact fi
 refine ox D ?_
 cases Q
 ·exact fi
 refine ob E ?_
 cases R
 ·refine oo u (on J (on F ?_))
  cases S
  ·exact fi
  refine oo v (on G ?_)
  cases T
  ·exact fi
  refine ob H ?_
  cases U
  ·refine lo l ?_;rintro W s (⟨rfl,rfl,rfl⟩|⟨rfl,rfl,rfl⟩) <;>
   ·refine⟨_,rfl,?_⟩;exact fi
  exact fi
 exact fi
theorem WX:BF 21:=by
 intro p sl i T g e a b m n k t h y C I c f M N O P Q z6 R S z9 t1 t2 t3 d w1 w5 w3 w4 V W Y Z i4 i5 i6 w2 v w z A B D G J H E F v1 v2 v3 x1 x2 x5 x3 x4 y0 y1 y2 y3 y4 y5 K L l;subst D G J;have j:=fa 21 (by decide) (by decide);clear K L;have o:=@aS p sl (.slice i) _ (.inr ⟨_,rfl⟩) g;have q:=@bw (ofNat 21) e a b m n nl k t h _ C I c (.inl rfl) f;have q3:=@aO false 2 p sl (.slice i) _ (.inr ⟨_,rfl⟩) g;have r:=@bD false 3 (ofNat 21) e a b m n nl k t h y C I c (.inl rfl) f;have u:=@bg false 3 (ofNat 21) e a b m n nl k t h y C I c (.inl rfl) f;clear g f;refine co [24,33,43,53,63] [2,3,83,95] (x:=.of Tryz.f70 cF bu) ?_;refine oo o (oo q (on j (ox v ?_)))
 cases M
 ·exact fi
 refine ox w ?_
 cases N
 ·exact fi
 refine ox z ?_
 cases O
 ·exact fi
 refine ox A ?_
 cases P
 ·exact fi
 refine ox B ?_
 cases Q
 ·exact fi
 refine oo r (on H (on E ?_))
 cases R
 ·exact fi
 refine oo u (on F ?_)
 cases S
 ·exact fi
 refine lo l ?_;rintro U s ⟨rfl,rfl⟩;refine⟨_,rfl,?_⟩;exact fi
theorem WU:BE 22:=by
 intro p sl j U h g e a b m n k t i y C I c f z1 O P z4 Q z6 R S T A t2 t3 d w1 w5 w3 w4 W q Y Z i4 i5 i6 w2 u1 B D u4 E u6 H J F G K v2 v3 x1 x2 x5 x3 x4 y0 L y2 y3 y4 y5 M N l;have o:=fa 22 (by decide) (by decide);clear M N;have r:=@aS p sl (.slice j) _ (.inr ⟨_,rfl⟩) h;have u:=@bw (ofNat 22) e a b m n (.slice g) k t i _ C I c (.inr ⟨_,rfl⟩) f;have v:=@aO false 2 p sl (.slice j) _ (.inr ⟨_,rfl⟩) h;have w:=@bD false 3 (ofNat 22) e a b m n (.slice g) k t i y C I c (.inr ⟨_,rfl⟩) f;have z:=@bg false 3 (ofNat 22) e a b m n (.slice g) k t i y C I c (.inr ⟨_,rfl⟩) f;clear h f;refine co [33,43,63,136,251] [2,3,83,95,104] (x:=.of Tryz.f70 cF bu) ?_;refine oo r (oo u (on o (ox B ?_)))
 cases O
 ·exact fi
 refine ox D ?_
 cases P
 ·exact fi
 refine ox E ?_
 cases Q
 ·exact fi
 refine oo w (on J (on F ?_))
 cases R
 ·exact fi
 refine oo z (on G ?_)
 cases S
 ·exact fi
 refine oo v (on K ?_)
 cases A
 ·exact fi
 refine ob H ?_
 cases T
 ·refine lo l ?_;rintro V s (⟨rfl,rfl,rfl⟩|⟨rfl,rfl,rfl⟩)
  ·refine⟨_,rfl,?_⟩;refine ox L ?_
   cases q <;>
   ·exact fi
  refine⟨_,rfl,?_⟩;exact fi
 exact fi
theorem WV:BF 22:=by
 intro p sl i U g e a b m n k t h y C I c f z1 P Q z4 R z6 S T z9 z t2 t3 d w1 w5 w3 w4 W o Y Z i4 i5 i6 w2 u1 A B u4 D E H K J F G L v2 v3 x1 x2 x5 x3 x4 y0 M y2 y3 y4 y5 N O l;subst E H K;have j:=fa 22 (by decide) (by decide);clear N O;have q:=@aS p sl (.slice i) _ (.inr ⟨_,rfl⟩) g;have r:=@bw (ofNat 22) e a b m n nl k t h _ C I c (.inl rfl) f;have u:=@aO false 2 p sl (.slice i) _ (.inr ⟨_,rfl⟩) g;have v:=@bD false 3 (ofNat 22) e a b m n nl k t h y C I c (.inl rfl) f;have w:=@bg false 3 (ofNat 22) e a b m n nl k t h y C I c (.inl rfl) f;clear g f;refine co [33,43,63,251] [2,3,83,95,104] (x:=.of Tryz.f70 cF bu) ?_;refine oo q (oo r (on j (ox A ?_)))
 cases P
 ·exact fi
 refine ox B ?_
 cases Q
 ·exact fi
 refine ox D ?_
 cases R
 ·exact fi
 refine oo v (on J (on F ?_))
 cases S
 ·exact fi
 refine oo w (on G ?_)
 cases T
 ·exact fi
 refine oo u (on L ?_)
 cases z
 ·exact fi
 refine lo l ?_;rintro V s ⟨rfl,rfl⟩;refine⟨_,rfl,?_⟩;refine ox M ?_
 cases o <;>
 ·exact fi
theorem abi:∀n:Nat,1<=n->n<=22->BE n
 | 0,h,_=>absurd h (by omega)
 | 1,_,_=>abB
 | 2,_,_=>abz
 | 3,_,_=>abx
 | 4,_,_=>abv
 | 5,_,_=>abt
 | 6,_,_=>abq
 | 7,_,_=>abo
 | 8,_,_=>abm
 | 9,_,_=>abk
 | 10,_,_=>Xi
 | 11,_,_=>Xg
 | 12,_,_=>Xe
 | 13,_,_=>Xc
 | 14,_,_=>Xa
 | 15,_,_=>W8
 | 16,_,_=>W6
 | 17,_,_=>W4
 | 18,_,_=>W2
 | 19,_,_=>W0
 | 20,_,_=>WY
 | 21,_,_=>WW
 | 22,_,_=>WU
 | n+23,_,h=>absurd h (by omega)
theorem aeH:∀n:Nat,1<=n->n<=22->BF n
 | 0,h,_=>absurd h (by omega)
 | 1,_,_=>abC
 | 2,_,_=>abA
 | 3,_,_=>aby
 | 4,_,_=>abw
 | 5,_,_=>abu
 | 6,_,_=>abr
 | 7,_,_=>abp
 | 8,_,_=>abn
 | 9,_,_=>abl
 | 10,_,_=>Xj
 | 11,_,_=>Xh
 | 12,_,_=>Xf
 | 13,_,_=>Xd
 | 14,_,_=>Xb
 | 15,_,_=>W9
 | 16,_,_=>W7
 | 17,_,_=>W5
 | 18,_,_=>W3
 | 19,_,_=>W1
 | 20,_,_=>WZ
 | 21,_,_=>WX
 | 22,_,_=>WV
 | n+23,_,h=>absurd h (by omega)
theorem O8:ae 104 [] (.dat (Ty.mk 0 [] 0 []).enc):=by
 refine co [] [] (x:=.of Tryz.f104 P8 Eo) ?_;exact fi
theorem DY {p sl:Int} {es f:List ak} (z:Bool) {x:Ins} (h:x.gN) :
  ae 70 [.dat (aN p sl (.slice es) (sx z f)),.dat x.enc] (bv (Et (ofNat es.length) (ofNat f.length) sl x)):=by
 obtain⟨T,A,L⟩:=h;replace L:=ahm L.1;have G:=O6 x.ty (.mk 0 [] 0 []) (by have:=T.1;omega);have i:=IA T;have F:=FY (t:=x.ty) T.1 T.2;obtain⟨M,d,a,b,m,j,H,u,⟨k,w,v,g⟩,C,I,c⟩:=x;have D:=dq z f;have O:∀E,sx z f=.slice E->aF m (ofNat E.length)=aF m (ofNat f.length):=by
  intro E h
  cases f with
  | nil=>
   cases z
   ·simp[sx,nl] at h
   cases h;rfl
  | cons y r=>cases h;rfl
 have P:sx z f=nl->aF m (ofNat f.length)=aF m 0:=by
  intro h
  cases f with
  | nil=>rfl
  | cons y r=>simp[sx,nl] at h
 cases J:aF M 1 with
 | true=>
  have e:Et (ofNat es.length) (ofNat f.length) sl ⟨M,d,a,b,m,j,H,u,⟨k,w,v,g⟩,C,I,c⟩=false:=by
   unfold Et;rw[DQ J]
  rw[e];exact OF (.inr ⟨_,rfl⟩) D (dq H (u.map iN)) (dr (ax g)) J rfl (fun h=>by simp at h) (Ki (.inl J))
 | false=>
  cases K:aF M 23 with
  | false=>
   have e:Et (ofNat es.length) (ofNat f.length) sl ⟨M,d,a,b,m,j,H,u,⟨k,w,v,g⟩,C,I,c⟩=false:=by
    unfold Et;rw[DR K]
   rw[e];refine OF (.inr ⟨_,rfl⟩) D (dq H (u.map iN)) (dr (ax g)) J (c2:=true) ?_ (fun _=>rfl) (Ki (.inr K));rw[dA] at K ⊢;simp only[decide_eq_false_iff_not,decide_eq_true_eq] at K ⊢;omega
  | true=>
   obtain⟨n,rfl,o,q⟩:=zo J K;have N:eO (ofNat n)=some (lU (ki n)):=by
    show ki n=_
    cases Q:ki n with
    | some s=>rfl
    | none=>
     exfalso
     have:∀n:Nat,1<=n->n<=22->ki n≠none:=by
      intro n
      match n with
      | 0=>intro h;omega
      | 1|2|3|4|5|6|7|8|9|10|11|12|13|14|15|16|17|18|19|20|21|22=>intro _ _ h;simp[ki] at h
      | n+23=>intro _ h;omega
     exact this n o q Q
   have e:Et (ofNat es.length) (ofNat f.length) sl ⟨ofNat n,d,a,b,m,j,H,u,⟨k,w,v,g⟩,C,I,c⟩=rvF (lU (ki n)) (ofNat n) (aB d 0) (aB a 0) (aB b 0) (aB m 0) (jP j []) (aF 0 (ofNat u.length)) (NC (.mk k w v g) (.mk 0 [] 0 [])) (B5 C I c) (aF 6 (ofNat u.length)) (eo d sl) (eo a sl) (eo b sl) (u.all (fun n=>eo n sl)) (isIdent j) (aB (Ty.mk k w v g).validate 0) (LD (Ty.mk k w v g).fv) (sY C I c) (aF m 0) (aF m 1) (aF 7 m) (aF m 6) (aB m 5) (aF m (ofNat es.length)) (aF m (ofNat f.length)):=by
    unfold Et;rw[N];rfl
   rw[e]
   cases u with
   | nil=>
    cases H
    ·have l:=@OG p sl (ofNat n) (.slice es) (sx z f) d a b m j k w v (Go.Proofs.YtmpmgmmcaghacaaGreatDoor.sl (ax g)) C I c (lU (ki n));exact aeH n o q D (dr (ax g)) rfl rfl rfl rfl rfl rfl rfl rfl O8 G vF (jy (.inr ⟨_,rfl⟩) D) (jy (.inr ⟨_,rfl⟩) D) (jy (.inr ⟨_,rfl⟩) D) (yj j) i rfl F (DZ L) rfl rfl rfl rfl rfl rfl O P l
    have l:=@Kt [] (by decide) p sl (ofNat n) (.slice es) (sx z f) (.inr ⟨_,rfl⟩) D d a b m j k w v (Go.Proofs.YtmpmgmmcaghacaaGreatDoor.sl (ax g)) C I c (lU (ki n));exact abi n o q D (dr (ax g)) (i:=[]) rfl rfl rfl rfl rfl rfl rfl O8 G vF (jy (.inr ⟨_,rfl⟩) D) (jy (.inr ⟨_,rfl⟩) D) (jy (.inr ⟨_,rfl⟩) D) (yj j) i rfl F (DZ L) rfl rfl rfl rfl rfl rfl O P l
   | cons y r=>
    have l:=@Kt (y::r) A p sl (ofNat n) (.slice es) (sx z f) (.inr ⟨_,rfl⟩) D d a b m j k w v (Go.Proofs.YtmpmgmmcaghacaaGreatDoor.sl (ax g)) C I c (lU (ki n));have B:((y::r).map iN).length=(y::r).length:=List.length_map _;exact abi n o q D (dr (ax g)) (i:=(y::r).map iN) rfl rfl rfl rfl rfl (by rw[B]) (by rw[B]) O8 G vF (jy (.inr ⟨_,rfl⟩) D) (jy (.inr ⟨_,rfl⟩) D) (jy (.inr ⟨_,rfl⟩) D) (yj j) i rfl F (DZ L) rfl rfl rfl rfl rfl rfl O P l
theorem BQ {p sl:Int} {b a:List ak} (z:Bool) {x:Ins} (h:x.gN) :
  ae 70 [.dat (aN p sl (.slice b) (sx z a)),.dat x.enc] (bv (iJ (ofNat b.length) (ofNat a.length) sl x)):=by
 grind[X0,DY]
end Go.Proofs.YtmpmgmmcaghacaaGreatDoor
namespace Go.Proofs
open Go.Shelf
def Tryz.Ml:Go.Shelf.Ren:=⟨fun|5=>59|8=>93|7=>92|19=>135|20=>136|10=>126|11=>127|12=>128|13=>129|14=>130|15=>131|16=>132|17=>133|18=>134|30=>167|31=>168|32=>169|33=>170|34=>171|35=>172|40=>191|n=>n,fun|23=>22|25=>3|3=>3|32=>134|22=>22|0=>0|44=>178|46=>162|4=>4|36=>171|35=>170|41=>57|5=>5|9=>9|53=>195|57=>199|63=>211|64=>212|n=>n,fun|n=>n⟩
theorem Tryz.gO:Go.Proofs.SlLaysM.n5 Tryz.prog Tryz.Ml:={
 mixed:=by kernel_rfl
 f5:=⟨Tryz.f59.name,by decide,Tryz.func59.trans (congrArg some (by kernel_rfl))⟩
 f7:=⟨Tryz.f92.name,by decide,Tryz.func92.trans (congrArg some (by kernel_rfl))⟩
 f8:=Tryz.func93.trans (congrArg some (by kernel_rfl))
 f10:=⟨Tryz.f126.name,by decide,Tryz.func126.trans (congrArg some (by kernel_rfl))⟩
 f11:=⟨Tryz.f127.name,by decide,Tryz.func127.trans (congrArg some (by kernel_rfl))⟩
 f12:=⟨Tryz.f128.name,by decide,Tryz.func128.trans (congrArg some (by kernel_rfl))⟩
 f13:=⟨Tryz.f129.name,by decide,Tryz.func129.trans (congrArg some (by kernel_rfl))⟩
 f14:=⟨Tryz.f130.name,by decide,Tryz.func130.trans (congrArg some (by kernel_rfl))⟩
 f15:=⟨Tryz.f131.name,by decide,Tryz.func131.trans (congrArg some (by kernel_rfl))⟩
 f16:=⟨Tryz.f132.name,by decide,Tryz.func132.trans (congrArg some (by kernel_rfl))⟩
 f17:=⟨Tryz.f133.name,by decide,Tryz.func133.trans (congrArg some (by kernel_rfl))⟩
 f18:=⟨Tryz.f134.name,by decide,Tryz.func134.trans (congrArg some (by kernel_rfl))⟩
 f19:=Tryz.func135.trans (congrArg some (by kernel_rfl))
 f20:=Tryz.func136.trans (congrArg some (by kernel_rfl))
 f30:=⟨Tryz.f167.name,by decide,Tryz.func167.trans (congrArg some (by kernel_rfl))⟩
 f31:=Tryz.func168.trans (congrArg some (by kernel_rfl))
 f32:=Tryz.func169.trans (congrArg some (by kernel_rfl))
 f33:=⟨Tryz.f170.name,by decide,Tryz.func170.trans (congrArg some (by kernel_rfl))⟩
 f34:=⟨Tryz.f171.name,by decide,Tryz.func171.trans (congrArg some (by kernel_rfl))⟩
 f35:=⟨Tryz.f172.name,by decide,Tryz.func172.trans (congrArg some (by kernel_rfl))⟩
 f40:=⟨Tryz.f191.name,by decide,Tryz.func191.trans (congrArg some (by kernel_rfl))⟩
 t0:=Tryz.underlying0
 a0:=Tryz.isAgg0
 z0:=Tryz.sizeOf0
 v0:=Tryz.zeroValue0
 t3:=Tryz.underlying3
 a3:=Tryz.isAgg3
 z3:=Tryz.sizeOf3
 v3:=Tryz.zeroValue3
 t4:=Tryz.underlying4
 a4:=Tryz.isAgg4
 z4:=Tryz.sizeOf4
 v4:=Tryz.zeroValue4
 t5:=Tryz.underlying5
 a5:=Tryz.isAgg5
 z5:=Tryz.sizeOf5
 v5:=Tryz.zeroValue5
 t9:=Tryz.underlying9
 a9:=Tryz.isAgg9
 z9:=Tryz.sizeOf9
 v9:=Tryz.zeroValue9
 t22:=Tryz.underlying22
 a22:=Tryz.isAgg22
 z22:=Tryz.sizeOf22
 v22:=Tryz.zeroValue22
 t23:=Tryz.underlying22
 a23:=Tryz.isAgg22
 z23:=Tryz.sizeOf22
 v23:=Tryz.zeroValue22
 t25:=Tryz.underlying3
 a25:=Tryz.isAgg3
 z25:=Tryz.sizeOf3
 v25:=Tryz.zeroValue3
 t32:=Tryz.underlying134
 a32:=Tryz.isAgg134
 z32:=Tryz.sizeOf134
 v32:=Tryz.zeroValue134
 t35:=Tryz.underlying170
 a35:=Tryz.isAgg170
 z35:=Tryz.sizeOf170
 v35:=Tryz.zeroValue170
 t36:=Tryz.underlying171
 a36:=Tryz.isAgg171
 z36:=Tryz.sizeOf171
 v36:=Tryz.zeroValue171
 t41:=Tryz.underlying57
 a41:=Tryz.isAgg57
 z41:=Tryz.sizeOf57
 v41:=Tryz.zeroValue57
 t44:=Tryz.underlying178
 a44:=Tryz.isAgg178
 z44:=Tryz.sizeOf178
 v44:=Tryz.zeroValue178
 t46:=Tryz.underlying162
 a46:=Tryz.isAgg162
 z46:=Tryz.sizeOf162
 v46:=Tryz.zeroValue162
 t53:=Tryz.underlying195
 a53:=Tryz.isAgg195
 z53:=Tryz.sizeOf195
 v53:=Tryz.zeroValue195
 t57:=Tryz.underlying199
 a57:=Tryz.isAgg199
 z57:=Tryz.sizeOf199
 v57:=Tryz.zeroValue199
 t63:=Tryz.underlying211
 a63:=Tryz.isAgg211
 z63:=Tryz.sizeOf211
 v63:=Tryz.zeroValue211
 t64:=Tryz.underlying212
 a64:=Tryz.isAgg212
 z64:=Tryz.sizeOf212
 v64:=Tryz.zeroValue212 }
def Tryz.uQ:Go.Shelf.Ren:=⟨fun|43=>60|n=>n,fun|22=>22|23=>3|3=>3|4=>4|0=>0|n=>n,fun|n=>n⟩
theorem Tryz.RI:Go.Proofs.SlLaysE.n43 Tryz.prog Tryz.uQ:={
 mixed:=by kernel_rfl
 f43:=⟨Tryz.f60.name,by decide,Tryz.func60.trans (congrArg some (by kernel_rfl))⟩
 t0:=Tryz.underlying0
 a0:=Tryz.isAgg0
 z0:=Tryz.sizeOf0
 v0:=Tryz.zeroValue0
 t3:=Tryz.underlying3
 a3:=Tryz.isAgg3
 z3:=Tryz.sizeOf3
 v3:=Tryz.zeroValue3
 t4:=Tryz.underlying4
 a4:=Tryz.isAgg4
 z4:=Tryz.sizeOf4
 v4:=Tryz.zeroValue4
 t22:=Tryz.underlying22
 a22:=Tryz.isAgg22
 z22:=Tryz.sizeOf22
 v22:=Tryz.zeroValue22
 a23:=Tryz.isAgg3
 z23:=Tryz.sizeOf3 }
end Go.Proofs
namespace Go.Tp
open Go.Proofs Go.Shelf Go.RowKit Go.Maps Go.Sort Go.Lib
def oF (n:Int):ak:=.flat (.int .i64 n)
section
def lu:List ac->Option (List Int)
 | []=>some []
 | .dat (.flat (.int .i64 n))::r=>(match lu r with|some l=>some (n::l)|none=>none)
 | _=>none
theorem rY:∀{d:List ac} {b:List Int},lu d=some b->d=b.map (fun n=>.dat (oF n))
 | [],b,h=>by grind[lu]
 | c::r,b,h=>by
  unfold lu at h
  split at h
  ·grind
  ·rename_i n f a;obtain⟨rfl,rfl⟩:=a
   split at h
   ·rename_i l e;simp at h;subst h;rw[rY e];rfl
   grind
  grind
def Be (d:List ac) (a:Heap) (e:Nat):Option eX:=
 match d with
 | [.win (.out m) 1 0 b]=>(match qJ (.out m) a with
  | some (.cells c)=>(match Nat.beq b c.length&&Nat.ble 1 b&&Nat.ble b 4294967296 with
   | true=>(match lu c with
    | some f=>some ⟨.dat (.slice ((compactUpTo f.toArray f.length).map oF)),qL (.out m) a,e⟩
    | none=>none)
   | false=>none)
  | _=>none)
 | _=>none
theorem Gz {w:World} {R x:Own} {b:Nat} {r:Array Value} {i:TypeId} (k:w.heap[b]?=some (.cells r i (0,0))) (y:x=fun c g=>c≠b/\R c g) (t:∀j,j < r.size->R b j) (o:0 < r.size) (q:Nat) (d:Array Int) (B:List Nat) (z:b∉B) :
  bp w R (putRow (Value.int .i64) (Sort.ahead w q) b 0 d) x B:=by
 have f:∀c,c≠b->(putRow (Value.int .i64) (Sort.ahead w q) b 0 d).heap[c]?=w.heap[c]?:=fun c s=>by
  simp[putRow,mapBlock,Array.getElem?_modify,Ne.symm s]
 have n:(putRow (Value.int .i64) (Sort.ahead w q) b 0 d).heap[b]?=some (.cells (putCells (Value.int .i64) 0 d r) i (0,0)):=by
  simp[putRow,mapBlock,Array.getElem?_modify,k,onCells]
 have v:(putCells (Value.int .i64) 0 d r).size=r.size:=by simp[putCells]
 subst y;refine⟨⟨rfl,rfl,rfl,by simp_all,fun c s m=>?_,fun c g s m=>⟨fun h=>m h.2,?_⟩,fun c s=>?_⟩,fun c s _=>?_⟩
 ·grind
 ·by_cases l:c=b
  ·subst l;have O:r.size<=g:=by
    grind
   rw[cell_of_row _ c g _ i (0,0) n,cell_of_row w c g r i (0,0) k,Array.getElem?_eq_none (by omega),Array.getElem?_eq_none O]
  exact World.cell?_of_block (a:=⟨c,g,none⟩) (f c l)
 all_goals grind[dF,fe]
theorem Nq {P:Program} {ρ:Ren} {G:bA} (L:SlLaysE.n43 P ρ) (bt:∀w,(zeroValue (ρ.t 23)).run P w=.ok (.int .i64 0) w) {K:List ac} {M:Heap} {C:Nat} {r:eX} (h:Be K M C=some r):ay P G (ρ.f 43) K M C (XQ r):=by
 unfold Be at h
 split at h
 rotate_left
 ·simp at h
 rename_i m af
 split at h
 rotate_left
 ·simp at h
 rename_i cs hm
 split at h
 rotate_left
 ·simp at h
 rename_i hc;simp only[Bool.and_eq_true,Nat.ble_eq] at hc;obtain⟨⟨l,a⟩,h2⟩:=hc;have l:=Nat.eq_of_beq_eq_true l
 split at h
 rotate_left
 ·simp at h
 rename_i g bk;simp only[Option.some.injEq] at h;subst h;have aq:=rY bk;have bi:g.length=af:=by rw[l,aq];simp
 rw[jS] at hm;rw[lE];intro w R N a4 b0 H z X ad bc be ba hF;obtain⟨v0,r1,c0,d1,rfl,rfl,o,bf⟩:=au X;obtain⟨rfl,rfl⟩:=aM bf;simp only[ai] at o;obtain⟨rfl,b,W,hb,rfl,am,_,bw,Q⟩:=o;obtain⟨a3,p,b1,U,E,al,a2,_,V,ar,S⟩:=aj.kK ad hm
 have:p=b:=by rw[hb] at al;simpa using al.symm
 subst this;subst E;obtain⟨vs,bu,sp,s,bg,a6,_⟩:=a2;have b3:W=vs.size:=by rw[eD,s] at Q;simpa using Q
 have T:∀j (u:j < g.length),vs[j]?=some (.int .i64 g[j])/\bJ (.int .i64 g[j])=true:=by
  intro j u;have A:cs[j]?=some (.dat (oF g[j])):=by rw[aq,List.getElem?_map,List.getElem?_eq_getElem u];rfl
  obtain⟨x,bx,q1,q2,_⟩:=dY bg (rj A);obtain⟨_,rfl,hf⟩:=aC q2;exact⟨by rw[←Array.getElem?_toList];exact q1,hf⟩
 have hH:Holds (Value.int .i64) w p 0 g.toArray:=by
  intro j u;have u:j < g.length:=by simpa using u
  obtain⟨q1,_⟩:=T j u;rw[Nat.zero_add];refine⟨?_,by simp[World.frozen?,s]⟩;simp[World.cell?,s,q1,u]
 have v:g.toArray.size=af:=by simpa using bi
 rw[←v];refine (AnyE.slices_Compact L (Value.int .i64) (fun _=>rfl) (EqlAt.intD P (ρ.t 23) .i64) (NeqAt.intD P (ρ.t 23) .i64) 0 bt p 0 W g.toArray w hH (by rw[v];omega) (by rw[v];exact am)).mono ?_;rintro e w' ⟨rfl,q,rfl⟩;obtain⟨f,t⟩:∃f,f=compactUpTo g.toArray g.toArray.size:=⟨_,rfl⟩;have ae:compactUpTo g.toArray g.length=f:=by rw[t];simp
 rw[ae,←t];have b2:f.length<=af:=by
  rw[t,←v];simp only[compactUpTo,List.length_map];exact Nat.le_trans (List.length_filter_le _ _) (by simp)
 have a0:∀n∈f,bJ (.int .i64 n)=true:=by
  intro n hn;rw[t] at hn;simp only[compactUpTo,List.mem_map,List.mem_filter,List.mem_range] at hn;obtain⟨j,⟨u,_⟩,rfl⟩:=hn;have u:j < g.length:=by simpa using u
  have:=(T j u).2
  simpa [u] using this
 obtain⟨I,Y⟩:∃I,I=(f++List.replicate (g.toArray.size - f.length) (0:Int)).toArray:=⟨_,rfl⟩;rw[←Y];have av:I.size=g.toArray.size:=by rw[Y];simp;omega
 obtain⟨R',ag⟩:∃R':Own,R'=fun c bo=>c≠p/\R c bo:=⟨_,rfl⟩
 have k:∀B,p∉B->bp w R (putRow (Value.int .i64) (Sort.ahead w q) p 0 I) R' B:=fun B a7=>Gz s ag a6 (by omega) q I B a7
 have hp:([]++((a3++(p::b1)++U)++z)).Perm (p::(b1++((a3++U)++z))):=by
  rw[List.perm_iff_count];intro x;simp only[List.count_append,List.count_cons,List.count_nil];omega
 have O:=List.nodup_cons.1 (hp.nodup_iff.1 (by simpa using bc));have a1:=O.1;simp only[List.mem_append,not_or] at a1;obtain⟨_,⟨n3,bl⟩,n4⟩:=a1;have n5:p∉V:=fun hm=>by
  rcases List.mem_append.1 (S.subset hm) with h|h
  ·exact n3 h
  exact bl h
 refine⟨_,_,_,C,R',N,[],V,rfl,⟨rfl,rfl,rfl⟩,bQ (d:=.slice (f.map oF)) ?_,ar.keep (k V n5),?_,be,k z n4,fun _ _ h=>h⟩
 ·have J:(f.map oF).length=f.length:=by simp
  have a5:=holds_putRow (Value.int .i64) (Sort.ahead w q) p 0 g.toArray I (holds_ahead _ w q p 0 g.toArray hH) av;have ax:∀i (D:i < f.length),(putRow (Value.int .i64) (Sort.ahead w q) p 0 I).cell? ⟨p,0+i,none⟩=some (.int .i64 f[i]):=by
   intro i D;have az:i < I.size:=by rw[av,v];omega
   have:=(a5 i az).1
   rw[this];congr 2;rw[getElem!_pos I i az];subst Y;simp[D]
  rw[←J];show eU _ _ _ _;refine .slice p 0 W 1 _ (fun i _=>.int .i64 (f[i]?.getD 0)) (by omega) ?_ (by rw[J];omega) (by rw[J];simp only[lim];omega) ?_ ?_
  ·intro e Z;simp only[List.mem_map] at Z;obtain⟨y,_,rfl⟩:=Z;rfl
  ·intro i j D u;rw[J] at D
   have:j=0:=by omega
   subst this;refine⟨?_,fun h=>by subst ag;exact h.1 rfl⟩
   have:=ax i D
   simpa [D] using this
  intro i j e c Z hc;have D:i < f.length:=by
   rcases Nat.lt_or_ge i f.length with h'|h'
   ·exact h'
   rw[List.getElem?_eq_none (by simpa using h')] at Z;simp at Z
  have a9:e=oF f[i]:=by
   rw[List.getElem?_map,List.getElem?_eq_getElem D] at Z;simpa using Z.symm
  subst a9;have a8:c=oF f[i]:=by
   cases j with
   | zero=>simpa [oF,ak.cells] using hc.symm
   | succ j=>simp[oF,ak.cells] at hc
  subst a8;have F:f[i]?.getD 0=f[i]:=by rw[List.getElem?_eq_getElem D];rfl
  rw[F];exact .flat (a0 _ (List.getElem_mem D))
 have h2:=(List.nodup_append.1 O.2).2.1;rw[List.nil_append];exact List.Nodup.sublist (List.Sublist.append S (.refl _)) h2
def gO (l:List Int):List Int:=l.mergeSort (fun x y=>decide (x<=y))
theorem zj (l:List Int):(gO l).Perm l:=List.mergeSort_perm _ _
theorem iw (l:List Int):(gO l).length=l.length:=(zj l).length_eq
theorem MP {w:World} {R:Own} (i:Array Obj) (B:List Nat):bp w R (grow w i) (fun b c=>b < w.heap.size/\R b c) B:=by
 have g:∀b,b < w.heap.size->(grow w i).heap[b]?=w.heap[b]?:=fun b d=>by simp[grow,Array.getElem?_append,d]
 refine⟨⟨rfl,rfl,rfl,by grind,fun b d e=>⟨g b d,fun c h=>e c h.2⟩,fun b c d e=>⟨fun h=>e h.2,World.cell?_of_block (a:=⟨b,c,none⟩) (g b d)⟩,fun b d=>fe (g b d)⟩,fun b d f=>⟨g b f,fun c h=>⟨f,h⟩⟩⟩
theorem No {P:Program} {ρ:Ren} {G:bA} (L:SlLaysM.n5 P ρ) {l:List Int} (hl:l≠[]) (hn:l.length < 1000000000) :
  ay P G (ρ.f 5) [.win (.out 0) 1 0 l.length] [(.out 0,.cells (cH l))] 1 (XQ ⟨.tup [],[(.out 0,.cells (cH (gO l)))],1⟩):=by
 intro w R N a1 bo H z T W ar a9 a5 hF;obtain⟨v0,r1,c0,d1,rfl,rfl,o,ae⟩:=au T;obtain⟨rfl,rfl⟩:=aM ae;obtain⟨b,r,Q,rfl,hb,av,t⟩:=W;have t:Q=[]:=t;subst t;obtain⟨C,q,sp,s,bc,S,_⟩:=av;simp only[ai] at o;obtain⟨rfl,g,a0,al,rfl,bk,bu,E,bl⟩:=o
 have:g=b:=by rw[hb] at al;simpa using al.symm
 subst this;obtain⟨b3,K,q1,q2,af,rfl,ae,ba⟩:=eL bc;obtain⟨rfl,rfl,a4⟩:=oD ae;obtain⟨rfl,az⟩:=mY ba;have bx:0 < l.length:=List.length_pos_iff.2 hl;have b0:C.toList.length=l.length+K.length:=by rw[af];simp[ints]
 have V:∀j (p:j < l.length),C[j]?=some (.int .i64 l[j]):=by
  intro j p;rw[←Array.getElem?_toList,af,List.getElem?_append_left (by simpa [ints] using p)];simp[ints,p]
 have hH:Holds (Value.int .i64) w g 0 l.toArray:=by
  intro j p;have p:j < l.length:=by simpa using p
  rw[Nat.zero_add];refine⟨?_,by simp[World.frozen?,s]⟩;simp[World.cell?,s,V j p,p]
 refine (AnyM.slices_Sort_int L g 0 a0 l w hH E (by omega)).mono ?_;rintro e w' ⟨rfl,n,os,rfl⟩;obtain⟨d,D⟩:∃d,d=(gO l).toArray:=⟨_,rfl⟩;show ∃v cv a3 bg M N' bt bi,_;have bw:d.size=l.length:=by rw[D];simp[iw]
 rw[show (l.mergeSort fun x y=>decide (x<=y)).toArray=d from D.symm];have A:(putRow (Value.int .i64) (Sort.ahead w n) g 0 d).heap[g]?=some (.cells (putCells (Value.int .i64) 0 d C) q (0,0)):=by
  simp[putRow,mapBlock,Sort.ahead,Array.getElem?_modify,s,onCells]
 have i:∀c,c≠g->(putRow (Value.int .i64) (Sort.ahead w n) g 0 d).heap[c]?=w.heap[c]?:=fun c hc=>by
  simp[putRow,mapBlock,Sort.ahead,Array.getElem?_modify,Ne.symm hc]
 have ax:(putCells (Value.int .i64) 0 d C).size=C.size:=by simp[putCells]
 have bf:0 < C.size:=by rw[←Array.length_toList];omega
 have Y:(putRow (Value.int .i64) (Sort.ahead w n) g 0 d).heap.size=w.heap.size:=by simp[putRow,mapBlock,Sort.ahead]
 obtain⟨M,ag⟩:∃M:Own,M=fun c m=>c < w.heap.size/\R c m:=⟨_,rfl⟩
 have a7:∀B,g∉B->bp w R (putRow (Value.int .i64) (Sort.ahead w n) g 0 d) R B:=by
  intro B U;refine⟨⟨rfl,rfl,rfl,by rw[Y];exact Nat.le_refl _,fun c hc I=>?_,fun c m hc I=>⟨I,?_⟩,fun c hc=>?_⟩,fun c hc _=>?_⟩
  ·have ad:c≠g:=fun e=>I 0 (e ▸ S 0 bf)
   exact⟨i c ad,I⟩
  ·by_cases F:c=g
   ·subst F;have O:C.size<=m:=by
     rcases Nat.lt_or_ge m C.size with h'|h'
     ·exact (I (S m h')).elim
     exact h'
    rw[cell_of_row _ c m _ q (0,0) A,cell_of_row w c m C q (0,0) s,Array.getElem?_eq_none (by omega),Array.getElem?_eq_none O]
   exact World.cell?_of_block (a:=⟨c,m,none⟩) (i c F)
  ·by_cases F:c=g
   ·subst F;rw[dF A,dF s,ax]
   exact fe (i c F)
  have ad:c≠g:=fun e=>U (e ▸ hc)
  exact⟨i c ad,fun m h=>h⟩
 have k:∀B,g∉B->bp w R (grow (putRow (Value.int .i64) (Sort.ahead w n) g 0 d) os) M B:=by
  intro B U;have h:=(a7 B U).trans (MP (R:=R) os B);rw[Y] at h;rw[ag];exact h
 have a2:g∉z:=by
  have h1:(g::z).Nodup:=by simpa using ar
  exact (List.nodup_cons.1 h1).1
 have J:(grow (putRow (Value.int .i64) (Sort.ahead w n) g 0 d) os).heap[g]?=some (.cells (putCells (Value.int .i64) 0 d C) q (0,0)):=by
  have a8:g < (putRow (Value.int .i64) (Sort.ahead w n) g 0 d).heap.size:=by rw[Y];exact E
  rw[show (grow (putRow (Value.int .i64) (Sort.ahead w n) g 0 d) os).heap[g]?=(putRow (Value.int .i64) (Sort.ahead w n) g 0 d).heap[g]? by rw[grow,Array.getElem?_append_left a8]];exact A
 refine⟨_,_,_,1,M,N,[],[g],rfl,⟨rfl,rfl,rfl⟩,by simp only[ai];exact⟨[],rfl,aP⟩,?_,by simpa using ar,a9,k z a2,fun _ _ h=>h⟩;refine⟨g,[],[],rfl,hb,?_,rfl⟩;refine⟨putCells (Value.int .i64) 0 d C,q,sp,J,?_,fun j p=>by rw[ax] at p;subst ag;exact⟨E,S j p⟩,fun h=>by rw[LB] at h;simp at h⟩;have am:∀x∈gO l,bJ (.int .i64 x)=true:=fun x X=>a4 x ((zj l).mem_iff.1 X)
 have Z:(putCells (Value.int .i64) 0 d C).toList=ints (gO l)++K:=by
  apply List.ext_getElem?
  intro j;rw[Array.getElem?_toList];simp only[putCells,Array.getElem?_mapIdx,Nat.zero_le,true_and,Nat.zero_add,Nat.sub_zero];have be:C[j]?=(ints l++K)[j]?:=by rw[←Array.getElem?_toList,af]
  rw[be]
  by_cases p:j < l.length
  ·rw[List.getElem?_append_left (by simpa [ints] using p),List.getElem?_append_left (by simpa [ints,iw] using p)];have aq:j < d.size:=by omega
   have a6:j < (gO l).length:=by rw[iw];exact p
   simp only[ints,List.getElem?_map,List.getElem?_eq_getElem p,List.getElem?_eq_getElem a6,Option.map_some,aq,if_true];rw[getElem!_pos d j aq];subst D;simp
  rw[List.getElem?_append_right (by simpa [ints] using p),List.getElem?_append_right (by simpa [ints,iw] using p)];simp only[ints,List.length_map,iw]
  cases K[j - l.length]? with
  | none=>rfl
  | some u=>simp only[Option.map_some];rw[if_neg (by omega)]
 rw[Z];have h2:=fK (w:=grow (putRow (Value.int .i64) (Sort.ahead w n) g 0 d) os) (R:=M) (N:=outs N) K;rw[az] at h2;have f:ah (grow (putRow (Value.int .i64) (Sort.ahead w n) g 0 d) os) M (outs N) (cH (gO l)) (ints (gO l)) []:=Es am;simpa using ct f h2
theorem Np {P:Program} {ρ:Ren} {G:bA} (L:SlLaysM.n5 P ρ):ay P G (ρ.f 5) [.dat (.flat (.slice none 0 0))] [] 0 (XQ ⟨.tup [],[],0⟩):=by
 intro w R N c k H z a b f g d p;obtain⟨j,q,m,n,rfl,rfl,o,i⟩:=au a;obtain⟨rfl,rfl⟩:=aM i;obtain⟨rfl,o⟩:=o;have l:j=.slice none 0 0:=by cases o <;> grind
 subst l;refine (AnyM.slices_Sort_int_none L none 0 w).mono ?_;rintro e r ⟨rfl,rfl⟩;exact⟨_,_,_,0,R,N,[],H,rfl,⟨rfl,rfl,rfl⟩,by grind[ai],b,by grind,g,⟨Step.refl _ _,fun _ _ _=>⟨rfl,fun _ h=>h⟩⟩,fun _ _ h=>h⟩
end
end Go.Tp
namespace Go.Proofs.YtmpmgmmcaghacaaGreatDoor
open Go.Tp
theorem yv (t:Bool) {f d a b m:Int} {n:List UInt8} {e:ak} {k:Int} {g:List UInt8} {x:Int} {y:ak} {C I:Int} {c:List UInt8} (h:dj e) (i:dj y):eB ba t 45 [.ref [i64 f,i64 d,i64 a,i64 b,i64 m,sb n,e,i64 k,sb g,i64 x,y,i64 C,i64 I,sb c,nl]] none=some ⟨.dat (eH f d a b m n e k g x y C I c),.keep⟩:=by
 cases t <;> rcases h with rfl|⟨E,rfl⟩ <;> rcases i with rfl|⟨F,rfl⟩ <;> kernel_rfl
theorem Ic (l:Nat) {f d a b m:Int} {n:List UInt8} {e:ak} {k:Int} {t:List UInt8} {x:Int} {y:ak} {C I:Int} {c:List UInt8} (g:dj e) (h:dj y):cG ba 45 [.ptr (.loc l) 0,.dat (eH f d a b m n e k t x y C I c)] (some (.cells (cX 0 0 0 0 0 [] nl 0 [] 0 nl 0 0 [])))=some ⟨.undef,.set (.cells (cX f d a b m n e k t x y C I c))⟩:=by
 rcases g with rfl|⟨E,rfl⟩ <;> rcases h with rfl|⟨F,rfl⟩ <;> kernel_rfl
variable {K:List ac} {N a i m n:Nat} {T:ej} {b c y:ak} {d l:List Int} {k p s x:Int} {q:Bool} {r:List (Nat×Nat)} {t:List UInt8} {ρ:Nat->Nat}
theorem Kr (o:Nat) (g:l≠[]) (N:l.length < 1000000000) :
  KC 59 [.win (.out o) 1 0 l.length] [(.out o,.cells (cH l))] (o+1) (XQ ⟨.tup [],[(.out o,.cells (cH (gO l)))],o+1⟩):=by
 have h:=No (G:=cM) Tryz.gO g N;have e:∀(l:List Int) (ρ:Nat->Nat),il ρ (cH l)=cH l:=by
  intro l ρ
  induction l with
  | nil=>rfl
  | cons a r c=>show fx ρ (iv a)::il ρ (cH r)=_;rw[c];rfl
 have d:∀(l:List Int),gZ 1 (cH l)=false:=by
  intro l
  induction l with
  | nil=>rfl
  | cons a r c=>show (iq 1 (iv a)||gZ 1 (cH r))=_;rw[c];rfl
 have f:=ay.frame h (fun _=>o) (heap:=[(.out o,.cells (cH l))]) (rest:=[]) (next:=o+1) (by
  have:jJ (fun _=>o) [(Name.out 0,aL.cells (cH l))]=[(.out o,.cells (cH l))]:=by simp only[jJ,wX,pW,e]
  simp_all) rfl (by simp only[gH,BS,d];rfl) rfl rfl
 refine f.mono ?_;rintro n i k ⟨p,j,m,⟨rfl,rfl,rfl⟩,rfl,rfl,rfl⟩;refine⟨rfl,?_,rfl⟩;have b:ig (fun _=>o) 1 (o+1) 0=o:=rfl;simp only[jJ,wX,pW,e,b,List.append_nil]
theorem z23:∀w,(Go.zeroValue (Tryz.uQ.t 23)).run Tryz.prog w=.ok (.int .i64 0) w:=Tryz.zeroValue3
theorem LO (o:Nat) {r:List Int} (h:1<=l.length) (b:l.length < 1000000000) (R:Go.Lib.compactUpTo l.toArray l.length=r) :
  KC 60 [.win (.out o) 1 0 l.length] [(.out o,.cells (cH l))] (o+1) (XQ ⟨.dat (.slice (r.map iN)),[],o+1⟩):=by
 refine Nq (G:=cM) Tryz.RI z23 ?_;subst R;have e:∀l:List Int,lu (cH l)=some l:=by
  intro l
  induction l with
  | nil=>rfl
  | cons a r i=>
   show (match lu (cH r) with|some l=>some (a::l)|none=>none)=_;rw[i]
 have f:(cH l).length=l.length:=List.length_map _;have c:qJ (.out o) [(Name.out o,aL.cells (cH l))]=some (.cells (cH l)):=by rw[jS];simp[eA]
 have g:qL (.out o) [(Name.out o,aL.cells (cH l))]=[]:=by rw[lE];simp[iY]
 have d:(Nat.beq l.length l.length&&Nat.ble 1 l.length&&Nat.ble l.length 4294967296)=true:=by
  rw[Bool.and_eq_true,Bool.and_eq_true,Nat.beq_eq,Nat.ble_eq,Nat.ble_eq];grind
 simp only[Be,c,f,d,e,g];rfl
theorem EV:ae 60 [.dat nl] (.dat nl):=by
 refine co [] [] (x:=.of Tryz.f60 Py Qz) ?_;exact fi
theorem RO:KC 59 [.dat nl] [] 0 (XQ ⟨.tup [],[],0⟩):=Np (G:=cM) Tryz.gO
def rF (a b:Int):List Int:=if b < a then [b,a] else if a=b then [a] else [a,b]
theorem Cv (a b:Int):gO [a,b]=if b < a then [b,a] else [a,b]:=by
 have e:gO [a,b]=List.merge [a] [b] (fun x y=>decide (x<=y)):=by
  simp[gO,List.mergeSort,List.splitAt_eq]
 rw[e]
 by_cases h:b < a
 ·simp_all
 have:a<=b:=by omega
 simp[h,List.merge]
theorem Ho (a b:Int):Go.Lib.compactUpTo #[a,b] 2=if a=b then [a] else [a,b]:=by
 by_cases h:a=b
 ·subst h;simp[Go.Lib.compactUpTo,List.range,List.range.loop,Go.Lib.keeps]
 have d:¬b=a:=fun e=>h e.symm
 simp[Go.Lib.compactUpTo,List.range,List.range.loop,Go.Lib.keeps,h,d]
theorem RJ (a b:Int):Go.Lib.compactUpTo (gO [a,b]).toArray (gO [a,b]).length=rF a b:=by
 grind[Cv,rF,Ho]
def nxD (A B:Bool) (j m:Int) (a:List ak):ak:=match A,B with
 | true,true=>.slice a
 | true,false=>.slice [iN j]
 | false,true=>.slice [iN m]
 | false,false=>nl
theorem XD {sl:Int} {es:List ak} {A:ak} {i:Int} (D:dj A) {f d a b m:Int} {n:List UInt8} {B:ak} {r:Int} {C I:Int} {c:List UInt8} (j:dj B) (l:dj y)
  (L:ap ba 23 [.dat (.slice es),.dat (.flat (.int .i64 i))]=some ⟨.ref [i64 f,i64 d,i64 a,i64 b,i64 m,sb n,B,i64 k,sb t,i64 r,y,i64 C,i64 I,sb c,nl],.keep⟩)
  {s:kG} {Q h:Bool} (N:ae 58 [iv f] (.tup [.dat s.enc,bv Q])) (J:aF (an .i64 (i+1)) (ofNat es.length)=h) (o:aB f 12=q) {u v:Int} {F:List ak}
  (E:KC 59 [.dat nl] [] 0 (XQ ⟨.tup [],[],0⟩)) (G:ae 60 [.dat nl] (.dat nl))
  (O:KC 59 [.win (.out 0) 1 0 1] [(.out 0,.cells [iv (an .i64 (i+1))])] 1 (XQ ⟨.tup [],[(.out 0,.cells [iv (an .i64 (i+1))])],1⟩)) (P:KC 60 [.win (.out 0) 1 0 1] [(.out 0,.cells [iv (an .i64 (i+1))])] 1 (XQ ⟨.dat (.slice [iN (an .i64 (i+1))]),[],1⟩))
  (K:KC 59 [.win (.out 0) 1 0 1] [(.out 0,.cells [iv m])] 1 (XQ ⟨.tup [],[(.out 0,.cells [iv m])],1⟩)) (g:KC 60 [.win (.out 0) 1 0 1] [(.out 0,.cells [iv m])] 1 (XQ ⟨.dat (.slice [iN m]),[],1⟩))
  (M:KC 59 [.win (.out 1) 1 0 2] [(.out 1,.cells [iv (an .i64 (i+1)),iv m])] 2 (XQ ⟨.tup [],[(.out 1,.cells [iv u,iv v])],2⟩)) (H:KC 60 [.win (.out 1) 1 0 2] [(.out 1,.cells [iv u,iv v])] 2 (XQ ⟨.dat (.slice F),[],2⟩)) :
  ae 40 [.dat (aN p sl (.slice es) A),iv i] (.dat (nxD (!s.fin&&h) (s.cond||q) (an .i64 (i+1)) m F)):=by
 have R:=@aS p sl (.slice es) _ (.inr ⟨_,rfl⟩) D;have S:=@yv false f d a b m n _ k t r _ C I c j l;have T:=@Ic 5 f d a b m n _ k t r _ C I c j l;obtain⟨w,U,V,W,Y,Z,s6,s7,s8,s9,e,z⟩:=s;refine co [41,29] [2,12,13,100005] (x:=.of Tryz.f40 P8 QA) ?_;refine oo R (oo L (oo S (oo T (on N ?_))))
 cases z
 ·refine ob J ?_
  cases h
  ·cases e
   ·refine ob o ?_
    cases q
    ·exact on E (on G fi)
    exact oh K (oh g fi)
   exact oh K (oh g fi)
  cases e
  ·refine ob o ?_
   cases q
   ·exact oh O (oh P fi)
   exact oh M (oh H fi)
  exact oh M (oh H fi)
 cases e
 ·refine ob o ?_
  cases q
  ·exact on E (on G fi)
  exact oh K (oh g fi)
 exact oh K (oh g fi)
def afn (n:Nat) (a m:Int) (i:Nat):List Int:=
 match !(lU (eO a)).fin&&decide (i+1 < n),(lU (eO a)).cond||aB a 12 with
 | true,true=>rF (ofNat (i+1)) m
 | true,false=>[ofNat (i+1)]
 | false,true=>[m]
 | false,false=>[]
theorem DM (a b:Int):rF a b≠[]:=by grind[rF]
theorem ZR {sl:Int} {d:List Ins} {q:ak} {x:Ins} (J:dj q) (z:d[i]?=some x) (N:d.length < 1000000000) :
  ae 40 [.dat (aN p sl (.slice (encI d)) q),iv (ofNat i)] (.dat (Go.Proofs.YtmpmgmmcaghacaaGreatDoor.sl ((afn d.length x.op x.im i).map iN))):=by
 have K:=xn z;have s:=uT x.op;obtain⟨f,H,a,b,m,n,G,D,⟨k,t,R,P⟩,C,I,c⟩:=x;have L:i < d.length:=(List.getElem?_eq_some_iff.1 z).1;have w:an .i64 (ofNat i+1)=ofNat (i+1):=bb (by omega);have o:aF (an .i64 (ofNat i+1)) (ofNat (encI d).length)=decide (i+1 < d.length):=by
  rw[w,bH,gv]
 obtain⟨j,O⟩:∃j,an .i64 (ofNat i+1)=j:=⟨_,rfl⟩;have E:∀y:Int,gO [y]=[y]:=fun y=>by simp[gO]
 have F:∀y:Int,Go.Lib.compactUpTo [y].toArray [y].length=[y]:=fun y=>by simp[Go.Lib.compactUpTo,List.range,List.range.loop,Go.Lib.keeps]
 obtain⟨u,v,g⟩:∃u v,gO [j,m]=[u,v]:=by
  rw[Cv]
  split
  ·exact⟨_,_,rfl⟩
  exact⟨_,_,rfl⟩
 have M:=Kr (l:=[j,m]) 1 (by simp) (by simp);rw[g] at M;have Q:=LO (l:=[u,v]) 1 (by simp) (by simp) (r:=rF j m) (by rw[←g,RJ]);have A:∀y:Int,KC 59 [.win (.out 0) 1 0 1] [(.out 0,.cells [iv y])] 1 (XQ ⟨.tup [],[(.out 0,.cells [iv y])],1⟩):=fun y=>by
  have h:=Kr (l:=[y]) 0 (by simp) (by simp);rw[E] at h;exact h
 have B:=fun y=>LO (l:=[y]) 0 (by simp) (by simp) (r:=[y]) (F y)
 subst O;have h:=XD (p:=p) (sl:=sl) (es:=encI d) (i:=ofNat i) J (dq G (D.map iN)) (dr (ax P)) K s o rfl RO EV (A _) (B _) (A _) (B _) M Q;rw[w] at h;have e:nxD (!(lU (eO f)).fin&&decide (i+1 < d.length)) ((lU (eO f)).cond||aB f 12) (ofNat (i+1)) m ((rF (ofNat (i+1)) m).map iN)=Go.Proofs.YtmpmgmmcaghacaaGreatDoor.sl ((afn d.length f m i).map iN):=by
  unfold nxD afn
  cases (!(lU (eO f)).fin&&decide (i+1 < d.length)) with
  | true=>
   cases ((lU (eO f)).cond||aB f 12) with
   | true=>
    dsimp only
    have:=DM (ofNat (i+1)) m
    generalize rF (ofNat (i+1)) m=l at *
    cases l with
    | nil=>exact absurd rfl this
    | cons a r=>rfl
   | false=>rfl
  | false=>
   cases ((lU (eO f)).cond||aB f 12) with
   | true=>rfl
   | false=>rfl
 rw[e] at h;exact h
def pG (l:List Bool):List ac:=l.map bv
theorem eb:∀l:List Int,bh (.cells (cH l))=true
 | []=>rfl
 | a::r=>by
  have h:aW (cH r)=true:=eb r;show (er (iv a)&&aW (cH r))=true;rw[h];rfl
theorem qZ:∀l:List Bool,bh (.cells (pG l))=true
 | []=>rfl
 | a::r=>by
  have h:aW (pG r)=true:=qZ r;show (er (bv a)&&aW (pG r))=true;rw[h];rfl
theorem F7:∀(l:List Int) (i:Nat) (x:Int),i < l.length->bI i [iv x] (cH l)=cH (l.set i x)
 | [],i,x,h=>absurd h (Nat.not_lt_zero i)
 | a::r,0,x,_=>by simp[bI,cH]
 | a::r,i+1,x,h=>by
  show iv a::bI i [iv x] (cH r)=_;rw[F7 r i x (Nat.lt_of_succ_lt_succ h)];rfl
theorem F8:∀(l:List Bool) (i:Nat) (x:Bool),i < l.length->bI i [bv x] (pG l)=pG (l.set i x)
 | [],i,x,h=>absurd h (Nat.not_lt_zero i)
 | a::r,0,x,_=>by simp[bI,pG]
 | a::r,i+1,x,h=>by
  show bv a::bI i [bv x] (pG r)=_;rw[F8 r i x (Nat.lt_of_succ_lt_succ h)];rfl
theorem wE:∀l:List Int,cd (cH l)=false
 | []=>rfl
 | [_]=>rfl
 | [_,_]=>rfl
 | _::_::_::_=>rfl
theorem Dp:∀l:List Bool,cd (pG l)=false
 | []=>rfl
 | [_]=>rfl
 | [_,_]=>rfl
 | _::_::_::_=>rfl
noncomputable def NV:TI:=match ba.ty 3 with|some t=>t|none=>default
theorem Fb:ba.ty 3=some NV:=by kernel_rfl
theorem L3:NV.isAgg=false:=by kernel_rfl
theorem HT:NV.size=1:=by kernel_rfl
noncomputable def HW:TI:=match ba.ty 4 with|some t=>t|none=>default
theorem Cb:ba.ty 4=some HW:=by kernel_rfl
theorem HV:HW.isAgg=false:=by kernel_rfl
theorem Ff:HW.size=1:=by kernel_rfl
noncomputable def xP:TI:=match Go.Tp.elemOf ba 35 with|some t=>t|none=>default
theorem SQ:Go.Tp.elemOf ba 35=some xP:=by kernel_rfl
theorem Ca:xP.size=1:=by kernel_rfl
theorem Er (m:Name) (h:l[i]?=some x):eB ba false 3 [.ptr m i] (some (.cells (cH l)))=some ⟨iv x,.keep⟩:=
 vS Fb L3 (by show (l.map iv)[i]?=_;grind)
theorem N5 (m:Name) (x:Int) (h:i < l.length):cG ba 3 [.ptr m i,iv x] (some (.cells (cH l)))=some ⟨.undef,.set (.cells (cH (l.set i x)))⟩:=by
 have a:=F7 l i x h
 have:=yW (m:=m) (v:=.int .i64 x) Fb HT (cs:=cH l) (off:=i) (by show i < (l.map iv).length;grind) (by
  grind[wE])
 grind
theorem Jp {l:List Bool} {x:Bool} (m:Name) (h:l[i]?=some x):eB ba false 4 [.ptr m i] (some (.cells (pG l)))=some ⟨bv x,.keep⟩:=
 vS Cb HV (by show (l.map bv)[i]?=_;grind)
theorem WD {l:List Bool} (m:Name) (x:Bool) (h:i < l.length):cG ba 4 [.ptr m i,bv x] (some (.cells (pG l)))=some ⟨.undef,.set (.cells (pG (l.set i x)))⟩:=by
 have a:=F8 l i x h
 have:=yW (m:=m) (v:=.bool x) Cb Ff (cs:=pG l) (off:=i) (by show i < (l.map bv).length;grind) (by
  grind[Dp])
 grind
theorem GB {m:Name} {k:Nat} (h:k < n):ap ba 22 [.win m 1 0 n,iv (ofNat k)]=some ⟨.ptr m k,.keep⟩:=by
 have:=Go.Tp.uA (m:=m) (off:=0) (s:=1) HU kV.symm h
 grind
theorem vV {m:Name} {k:Nat} (h:k < n):ap ba 35 [.win m 1 0 n,iv (ofNat k)]=some ⟨.ptr m k,.keep⟩:=by
 have:=Go.Tp.uA (m:=m) (off:=0) (s:=1) SQ Ca.symm h
 grind
theorem AA {m:Name} (h:n < 1000000000):kb ba 35 [.win m 1 0 n] none=some ⟨iv (ofNat n),.keep⟩:=by
 have e:kb ba 35 [.win m 1 0 n] none=if Nat.ble n lim=true then some ⟨iv (ofNat n),.keep⟩ else none:=by kernel_rfl
 rw[e,if_pos];rw[Nat.ble_eq];simp only[lim];omega
theorem vC {a:ac}:∀n:Nat,po [a] n=List.replicate n a
 | 0=>rfl
 | n+1=>by show [a]++po [a] n=_;rw[vC n];rfl
theorem Ui (n:Nat):cH (List.replicate n 0)=po [iv 0] n:=by rw[vC];simp[cH]
theorem U0 (n:Nat):pG (List.replicate n false)=po [bv false] n:=by rw[vC];simp[pG]
theorem TF (h:n < 1000000):fR ba 22 [iv (ofNat n),iv (ofNat n)]=some ⟨.undef,.grow (.cells (cH (List.replicate n 0))) 1 n⟩:=by
 have e:fR ba 22 [iv (ofNat n),iv (ofNat n)]=if (Nat.ble n n&&Nat.ble (DE.bytes*n) 140737488355328&&Nat.ble n lim&&Nat.blt 0 DE.size&&dU (aY (bE DE.zero))&&!cd (po (aY (bE DE.zero)) n))=true
    then some ⟨.undef,.grow (.cells (po (aY (bE DE.zero)) n)) DE.size n⟩ else none:=by kernel_rfl
 have c:aY (bE DE.zero)=[iv 0]:=by kernel_rfl
 rw[e,c,←Ui,wE,kV];have d:DE.bytes<=1000:=fD (by kernel_rfl);have a:Nat.ble n n=true:=by simp_all
 have b:Nat.ble (DE.bytes*n) 140737488355328=true:=by
  rw[Nat.ble_eq]
  calc DE.bytes*n<=1000*1000000:=Nat.mul_le_mul d (by omega)
   _<=140737488355328:=by decide
 have f:Nat.ble n lim=true:=by rw[Nat.ble_eq];simp only[lim];omega
 rw[a,b,f];rfl
theorem Qm (h:n < 1000000):fR ba 35 [iv (ofNat n),iv (ofNat n)]=some ⟨.undef,.grow (.cells (pG (List.replicate n false))) 1 n⟩:=by
 have e:fR ba 35 [iv (ofNat n),iv (ofNat n)]=if (Nat.ble n n&&Nat.ble (xP.bytes*n) 140737488355328&&Nat.ble n lim&&Nat.blt 0 xP.size&&dU (aY (bE xP.zero))&&!cd (po (aY (bE xP.zero)) n))=true
    then some ⟨.undef,.grow (.cells (po (aY (bE xP.zero)) n)) xP.size n⟩ else none:=by kernel_rfl
 have c:aY (bE xP.zero)=[bv false]:=by kernel_rfl
 rw[e,c,←U0,Dp,Ca];have d:xP.bytes<=1000:=fD (by kernel_rfl);have a:Nat.ble n n=true:=by simp_all
 have b:Nat.ble (xP.bytes*n) 140737488355328=true:=by
  rw[Nat.ble_eq]
  calc xP.bytes*n<=1000*1000000:=Nat.mul_le_mul d (by omega)
   _<=140737488355328:=by decide
 have f:Nat.ble n lim=true:=by rw[Nat.ble_eq];simp only[lim];omega
 rw[a,b,f];rfl
noncomputable def hFC:Hints:=⟨bV,KQ,bi,rowsOf bi 68⟩
def pM (m:Nat) (p K b:List ac) (a:Nat) (start n:Int) (N:Nat):ab:=⟨[(18,iv start),(17,iv n),(5,.win (.out m) 2 0 a),(3,.win (.out 0) 1 0 N),(1,.ptr (.loc 1) 0)],[(.loc 1,.cells p)],[(.out m,.cells K),(.out 0,.cells b)],m+1⟩
def Fu (m:Nat) (p K a:List ac) (start n:Int) (N:Nat):ab:=⟨[(26,bv false),(18,iv start),(17,iv n),(5,.win (.out m) 2 0 0),(3,.win (.out 0) 1 0 N),(1,.ptr (.loc 1) 0)],[(.loc 1,.cells p)],[(.out m,.cells K),(.out 0,.cells a)],m+1⟩
def Cq (m:Nat) (p K b:List ac) (a:Nat) (start n:Int) (N:Nat) (c:Int):ab:=⟨[(128,bv false),(10,iv c),(18,iv start),(17,iv n),(5,.win (.out m) 2 0 a),(3,.win (.out 0) 1 0 N),(1,.ptr (.loc 1) 0)],[(.loc 1,.cells p)],[(.out m,.cells K),(.out 0,.cells b)],m+1⟩
def Oi (K a:List ac):ab:=⟨[(2,bv true)],[],[(.out 1,.cells K),(.out 0,.cells a)],2⟩
theorem Rh {sl:Int} {b:List ak} {a:ak} {c:List ac} {start n:Int} (e:T (.exit 2) ((Fu 1 (cC p sl (.slice b) a) K c start n N).al bc)) :
  KD (roundOf Tryz.f68 1) T ((pM 1 (cC p sl (.slice b) a) K c 0 start n N).al bc):=by
 refine aq [] [] (H:=hFC) (live:=sQ) ?_;exact oe e
theorem Hd {sl:Int} {h:List ak} {j:ak} (g2:dj j) {B K3 ss v s2 s3:List ac} {k o Z tof:Nat} {start n vi D sv ll to tv:Int} {l:List ak} {s:kG} {ok i cl A Y:Bool} {op ad a b m:Int} {nm:List UInt8} {dx:ak} {xk:Int} {C I:Int} {c:List UInt8}
  (z:kb ba 146 [.win (.out 1) 2 0 (k+1)] none=some ⟨iv (ofNat (k+1)),.keep⟩) (f2:aF 0 (ofNat (k+1))=true)
  (f3:ap ba 146 [.win (.out 1) 2 0 (k+1),iv (an .i64 (ofNat (k+1) - 1))]=some ⟨.ptr (.out 1) o,.keep⟩)
  (d:eB ba false 3 [.ptr (.out 1) o] (some (.cells K))=some ⟨iv vi,.keep⟩)
  (f5:ap ba 23 [.dat (.slice h),iv vi]=some ⟨.ref [i64 op,i64 ad,i64 a,i64 b,i64 m,sb nm,dx,i64 xk,sb t,i64 x,y,i64 C,i64 I,sb c,nl],.keep⟩)
  (f6:ae 58 [iv op] (.tup [.dat s.enc,bv ok]))
  (r:eB ba false 3 [.ptr (.out 1) (o+1)] (some (.cells K))=some ⟨iv D,.keep⟩) (f8:aB D 0=i)
  (u:ap ba 22 [.win (.out 0) 1 0 N,iv vi]=some ⟨.ptr (.out 0) Z,.keep⟩)
  (af:eB ba false 3 [.ptr (.out 0) Z] (some (.cells ss))=some ⟨iv sv,.keep⟩) (ag:aB sv 2=q)
  (G:cG ba 3 [.ptr (.out 0) Z,iv 2] (some (.cells ss))=some ⟨.undef,.set (.cells s2)⟩)
  (e:fF ba 146 none (some (.tmp 73)) none [.win (.out 1) 2 0 (k+1),iv (an .i64 (ofNat (k+1) - 1))]=some ⟨.win (.out 1) 2 0 k,.keep⟩)
  (am:fF ba 146 none (some (.tmp 103)) none [.win (.out 1) 2 0 (k+1),iv (an .i64 (ofNat (k+1) - 1))]=some ⟨.win (.out 1) 2 0 k,.keep⟩)
  (J:cG ba 3 [.ptr (.out 0) Z,iv 1] (some (.cells ss))=some ⟨.undef,.set (.cells v)⟩)
  (L:ae 40 [.dat (aN p sl (.slice h) j),iv vi] (.dat (.slice l)))
  (M:kb ba 22 [.dat (.slice l)] none=some ⟨iv ll,.keep⟩) (O:aB D ll=cl)
  (P:cG ba 3 [.ptr (.out 0) Z,iv 2] (some (.cells v))=some ⟨.undef,.set (.cells s3)⟩)
  (Q:cl=false->ap ba 22 [.dat (.slice l),iv D]=some ⟨.ref [iN to],.keep⟩)
  (R:cG ba 3 [.ptr (.out 1) (o+1),iv (an .i64 (D+1))] (some (.cells K))=some ⟨.undef,.set (.cells B)⟩)
  (f:cl=false->ap ba 22 [.win (.out 0) 1 0 N,iv to]=some ⟨.ptr (.out 0) tof,.keep⟩)
  (g:cl=false->eB ba false 3 [.ptr (.out 0) tof] (some (.cells v))=some ⟨iv tv,.keep⟩) (S:aB tv 1=A) (U:aB tv 2=Y)
  (V:cl=false->bB ba true 146 [.win (.out 1) 2 0 (k+1),.dat (.slice [.agg [iN to,iN 0]])] (some (.cells B))=some ⟨.undef,.grow (.cells K3) 2 (k+2)⟩) (W:cl=false->bh (.cells K3)=true)
  (n1:bh (.cells v)=true) (n2:bh (.cells s2)=true) (n3:bh (.cells s3)=true) (n4:bh (.cells B)=true)
  (E:(i&&(q||s.call))=true->T .normal ((pM 1 (cC p sl (.slice h) j) K s2 k start n N).al bc))
  (F:(i&&(q||s.call))=false->cl=true->T .normal ((pM 1 (cC p sl (.slice h) j) K s3 k start n N).al bc))
  (e3:(i&&(q||s.call))=false->cl=false->A=true->T .ret ((Oi B v).al bc))
  (e4:(i&&(q||s.call))=false->cl=false->A=false->Y=true->T .normal ((Cq 1 (cC p sl (.slice h) j) B v (k+1) start n N to).al bc))
  (e5:(i&&(q||s.call))=false->cl=false->A=false->Y=false->T .normal ((pM 2 (cC p sl (.slice h) j) K3 v (k+2) start n N).al bc)) :
  KD (roundOf Tryz.f68 1) T ((pM 1 (cC p sl (.slice h) j) K ss (k+1) start n N).al bc):=by
 have q3:=@aO false 1 p sl (.slice h) _ (.inr ⟨_,rfl⟩) g2;clear g2;obtain⟨w,y1,y2,y3,y4,y5,y6,y7,y8,y9,ar,az⟩:=s;refine aq [49,58,600069,600080,93,600099,600118,123,128,500133] [25,29,31,38,39,48,55,56,57,68,69,100069,72,74,79,80,100080,81,85,90,92,98,99,100099,102,104,109,110,115,100118,121,122,126,127,133] (H:=hFC) (live:=sQ) (oo z (oo z (oo f3 (oo d (oo f5 (on f6 (oo r (ob f8 ?_))))))))
 cases i
 ·refine oo d (oo u (oo J (ob n1 (oo q3 (oo d (on L (oo r (oo M (ob O ?_)))))))))
  cases cl
  ·refine oo r (oo (Q rfl) (oo r (oo R (ob n4 (oo (f rfl) (oo (g rfl) (ob S ?_)))))))
   cases A
   ·refine oo (f rfl) (oo (g rfl) (ox U ?_))
    cases Y
    ·exact oo (V rfl) (ob (W rfl) (oe (e5 rfl rfl rfl rfl)))
    exact oe (e4 rfl rfl rfl rfl)
   exact oe (e3 rfl rfl rfl)
  exact oo d (oo u (oo P (ob n3 (oo z (oo e (oe (F rfl rfl)))))))
 refine oo d (oo u (oo af (ob ag ?_)))
 cases q
 ·cases y9
  ·refine oo d (oo u (oo J (ob n1 (oo q3 (oo d (on L (oo r (oo M (ob O ?_)))))))))
   cases cl
   ·refine oo r (oo (Q rfl) (oo r (oo R (ob n4 (oo (f rfl) (oo (g rfl) (ob S ?_)))))))
    cases A
    ·refine oo (f rfl) (oo (g rfl) (ox U ?_))
     cases Y
     ·exact oo (V rfl) (ob (W rfl) (oe (e5 rfl rfl rfl rfl)))
     exact oe (e4 rfl rfl rfl rfl)
    exact oe (e3 rfl rfl rfl)
   exact oo d (oo u (oo P (ob n3 (oo z (oo e (oe (F rfl rfl)))))))
  exact oo d (oo u (oo G (ob n2 (oo z (oo e (oe (E rfl)))))))
 exact oo d (oo u (oo G (ob n2 (oo z (oo e (oe (E rfl)))))))
theorem M7 {sl:Int} {f:List ak} {g:ak} (O:dj g) {ss G J L:List ac} {k o l:Nat} {start n r sv:Int} {s:kG} {ok:Bool} {Q u a b m:Int} {nm:List UInt8} {R:ak} {xk:Int} {C I:Int} {c:List UInt8}
  (h:kb ba 146 [.win (.out 1) 2 0 (k+1)] none=some ⟨iv (ofNat (k+1)),.keep⟩) (f2:aF 0 (ofNat (k+1))=true)
  (U:ap ba 146 [.win (.out 1) 2 0 (k+1),iv (an .i64 (ofNat (k+1) - 1))]=some ⟨.ptr (.out 1) o,.keep⟩)
  (e:eB ba false 3 [.ptr (.out 1) o] (some (.cells K))=some ⟨iv r,.keep⟩)
  (V:ap ba 23 [.dat (.slice f),iv r]=some ⟨.ref [i64 Q,i64 u,i64 a,i64 b,i64 m,sb nm,R,i64 xk,sb t,i64 x,y,i64 C,i64 I,sb c,nl],.keep⟩)
  (W:ae 58 [iv Q] (.tup [.dat s.enc,bv ok]))
  (M:eB ba false 3 [.ptr (.out 1) (o+1)] (some (.cells K))=some ⟨iv 0,.keep⟩)
  (j:ap ba 22 [.win (.out 0) 1 0 N,iv r]=some ⟨.ptr (.out 0) l,.keep⟩)
  (v:eB ba false 3 [.ptr (.out 0) l] (some (.cells ss))=some ⟨iv sv,.keep⟩) (z:aB sv 2=q)
  (i:cG ba 3 [.ptr (.out 0) l,iv 2] (some (.cells ss))=some ⟨.undef,.set (.cells J)⟩)
  (d:fF ba 146 none (some (.tmp 73)) none [.win (.out 1) 2 0 (k+1),iv (an .i64 (ofNat (k+1) - 1))]=some ⟨.win (.out 1) 2 0 k,.keep⟩)
  (S:fF ba 146 none (some (.tmp 103)) none [.win (.out 1) 2 0 (k+1),iv (an .i64 (ofNat (k+1) - 1))]=some ⟨.win (.out 1) 2 0 k,.keep⟩)
  (A:cG ba 3 [.ptr (.out 0) l,iv 1] (some (.cells ss))=some ⟨.undef,.set (.cells G)⟩)
  (B:ae 40 [.dat (aN p sl (.slice f) g),iv r] (.dat nl))
  (D:cG ba 3 [.ptr (.out 0) l,iv 2] (some (.cells G))=some ⟨.undef,.set (.cells L)⟩)
  (Y:bh (.cells G)=true) (P:bh (.cells J)=true) (Z:bh (.cells L)=true) 
  (E:(q||s.call)=true->T .normal ((pM 1 (cC p sl (.slice f) g) K J k start n N).al bc))
  (F:(q||s.call)=false->T .normal ((pM 1 (cC p sl (.slice f) g) K L k start n N).al bc)) :
  KD (roundOf Tryz.f68 1) T ((pM 1 (cC p sl (.slice f) g) K ss (k+1) start n N).al bc):=by
 have q3:=@aO false 1 p sl (.slice f) _ (.inr ⟨_,rfl⟩) O;obtain⟨w,y1,y2,y3,y4,y5,y6,y7,y8,y9,ad,af⟩:=s;refine aq [58,600069,600080,600099] [25,29,31,38,39,48,55,56,57,68,69,100069,72,74,79,80,100080,81,85,90,98,99,100099,102,104] (H:=hFC) (live:=sQ) (oo h (oo h (oo U (oo e (oo V (on W (oo M (oo e (oo j (oo v (ob z ?_)))))))))))
 cases q
 ·cases y9
  ·exact oo e (oo j (oo A (ob Y (oo q3 (oo e (on B (oo M (oo e (oo j (oo D (ob Z (oo h (oo d (oe (F rfl)))))))))))))))
  exact oo e (oo j (oo i (ob P (oo h (oo d (oe (E rfl)))))))
 exact oo e (oo j (oo i (ob P (oo h (oo d (oe (E rfl)))))))
noncomputable def VZ:Hints:=⟨bV,Gd,bi,rowsOf bi 61⟩
theorem sS {c:List ak} {x y:Int} {i:Nat} {p q:Bool} (a:aF (ofNat i) (ofNat c.length)=p) (b:p=true->ap ba 22 [.dat (.slice c),.dat (.flat (.int .i64 (ofNat i)))]=some ⟨.ref [iN y],.keep⟩) (f:aF y x=q) {T:ej}
  (E:(p&&q)=true->T .normal ((Sp c x (an .i64 (ofNat i+1))).al nk)) (F:(p&&q)=false->T (.exit 0) ((Md c x (ofNat i)).al nk)) :
  KD (roundOf Tryz.f61 0) T ((Sp c x (ofNat i)).al nk):=by
 refine aq [9,16] [13] (H:=VZ) (live:=Az) (ob a ?_)
 cases p
 ·exact oe (F rfl)
 refine oo (b rfl) (ob f ?_)
 cases q
 ·exact oe (F rfl)
 exact oe (E rfl)
theorem GG (F:T (.exit 0) ((Kq x (ofNat 0)).al nk)) :
  KD (roundOf Tryz.f61 0) T ((Mc x (ofNat 0)).al nk):=by
 refine aq [] [] (H:=VZ) (live:=Az) ?_;exact oe F
theorem GH (a:bB ba false 22 [.own [],.dat (.slice [iN x])] none=some ⟨.own [iN x],.keep⟩):ae 61 [.dat nl,iv x] (.own [iN x]):=by
 have l:KD (.loop (roundOf Tryz.f61 0)) (fun e s=>e=.exit 0/\s=(Kq x (ofNat 0)).al nk) ((Mc x (ofNat 0)).al nk):=
  bm (St:=fun _=>(Mc x (ofNat 0)).al nk) 0 (fun i b=>absurd b (Nat.not_lt_zero i)) (GG ⟨rfl,rfl⟩) (i:=0) (Nat.le_refl _)
 refine co [] [40,44] (x:=.of Tryz.f61 Gd Az) ?_;refine lo l ?_;rintro c s ⟨rfl,rfl⟩;refine⟨_,rfl,?_⟩;exact oo a (oo a fi)
theorem GI {c:ak} {d p q:List ak} {x y:Int} {i:Nat} {g h:Bool} (a:aF (ofNat i) (ofNat (c::d).length)=g) (b:g=true->ap ba 22 [.dat (.slice (c::d)),.dat (.flat (.int .i64 (ofNat i)))]=some ⟨.ref [iN y],.keep⟩) (f:aB y x=h)
  (l:KD (.loop (roundOf Tryz.f61 0)) (fun e s=>e=.exit 0/\s=(Md (c::d) x (ofNat i)).al nk) ((Sp (c::d) x (ofNat 0)).al nk))
  (n:fF ba 22 none (some (.tmp 35)) none [.dat (.slice (c::d)),iv (ofNat i)]=some ⟨.dat (.slice p),.keep⟩)
  (o:fF ba 22 (some (.tmp 42)) none none [.dat (.slice (c::d)),iv (ofNat i)]=some ⟨.dat (.slice q),.keep⟩)
  (j:bB ba false 22 [.own [],.dat (.slice p)] none=some ⟨.own p,.keep⟩)
  (k:bB ba false 22 [.own p,.dat (.slice [iN x])] none=some ⟨.own (p++[iN x]),.keep⟩)
  (m:bB ba false 22 [.own (p++[iN x]),.dat (.slice q)] none=some ⟨.own (p++[iN x]++q),.keep⟩) :
  ae 61 [.dat (.slice (c::d)),iv x] (match g&&h with|true=>.dat (.slice (c::d))|false=>.own (p++[iN x]++q)):=by
 refine co [23,30] [27,36,43,37,40,44] (x:=.of Tryz.f61 Gd Az) ?_;refine lo l ?_;rintro r s ⟨rfl,rfl⟩;refine⟨_,rfl,?_⟩;refine ob a ?_
 cases g
 ·exact oo n (oo o (oo j (oo k (oo m fi))))
 refine oo (b rfl) (ob f ?_)
 cases h
 ·exact oo n (oo o (oo j (oo k (oo m fi))))
 exact fi
theorem Xy (N:l.length < 100000000):ae 61 [.dat (sl (l.map iN)),iv x] (.dat (sl ((Eu l x).map iN))):=by
 cases l with
 | nil=>exact ko (GH (fE (a:=[]) (b:=[x]) (by simp)))
 | cons v r=>
  obtain⟨l,u⟩:∃l,l=v::r:=⟨_,rfl⟩;have f:(l.map iN)=iN v::r.map iN:=by rw[u];rfl
  have m:sl (l.map iN)=.slice (l.map iN):=by rw[f];rfl
  rw[←u] at N ⊢;have k:=QP (l:=l) (x:=x);have d:KD (.loop (roundOf Tryz.f61 0)) (fun e s=>e=.exit 0/\s=(Md (l.map iN) x (ofNat (kW l x))).al nk) ((Sp (l.map iN) x (ofNat 0)).al nk):=by
   refine bm (St:=fun i=>(Sp (l.map iN) x (ofNat i)).al nk) (kW l x) ?_ ?_ (i:=0) (Nat.zero_le _)
   ·intro i w;have g:i < l.length:=by omega
    have J:l[i]?=some l[i]:=List.getElem?_eq_getElem g;refine @sS _ _ (l[i]) _ true true (br (by simpa using g)) (fun _=>wb J) (QO w J) _ (fun _=>?_) (fun h=>by simp at h);rw[bb (by omega)];rfl
   cases J:l[kW l x]? with
   | none=>
    have:l.length<=kW l x:=by simpa using J
    exact @sS _ _ 0 _ false (aF 0 x) (cj (by simp;omega)) (fun h=>by simp at h) rfl _ (fun h=>by simp at h) (fun _=>⟨rfl,rfl⟩)
   | some y=>
    have g:=(List.getElem?_eq_some_iff.1 J).1;exact @sS _ _ y _ true false (br (by simpa using g)) (fun _=>wb J) (QQ J) _ (fun h=>by simp at h) (fun _=>⟨rfl,rfl⟩)
  have o:=FB (l:=l) k (.tmp 35);have p:=zl (l:=l) k (.tmp 42);have q:=fE (a:=[]) (b:=l.take (kW l x)) (by simp;omega);have t:=fE (a:=l.take (kW l x)) (b:=[x]) (by simp;omega);have n:=fE (a:=l.take (kW l x)++[x]) (b:=l.drop (kW l x)) (by simp;omega);rw[List.map_append] at n;have j:sl ((fw l (kW l x) x).map iN)=.slice ((l.take (kW l x)).map iN++[x].map iN++(l.drop (kW l x)).map iN):=by
   have:(fw l (kW l x) x).map iN=(l.take (kW l x)).map iN++[x].map iN++(l.drop (kW l x)).map iN:=by simp[fw]
   rw[←this]
   cases h:(fw l (kW l x) x).map iN with
   | nil=>simp[fw] at h
   | cons _ _=>rfl
  rw[f] at o p d m;rw[f,m];unfold Eu
  cases J:l[kW l x]? with
  | none=>
   have:l.length<=kW l x:=by simpa using J
   have h:=@GI _ _ _ _ _ 0 _ false (aB 0 x) (cj (by rw[←f];simp;omega)) (fun h=>by simp at h) rfl d o p q t n;dsimp only;rw[j];exact ko h
  | some y=>
   have g:=(List.getElem?_eq_some_iff.1 J).1;have h:=@GI _ _ _ _ _ y _ true (aB y x) (br (by rw[←f];simpa using g)) (fun _=>by rw[←f];exact wb J) rfl d o p q t n;dsimp only;generalize aB y x=c at h
   cases c
   ·dsimp only;rw[j];exact ko h
   dsimp only;rw[f];exact h
def csD (a c d b e:Bool) (m j:Int) (f:List ak):ak:=
 if a=true then .slice [iN m] else if (c||d)=true then nl else if b=true then (if e=true then .slice f else .slice [iN m]) else if e=true then .slice [iN j] else nl
theorem ZD {es:List ak} {B:ak} {i:Int} (E:dj B) {op h a b m:Int} {n:List UInt8} {D:ak} {A:Int} {C I:Int} {c:List UInt8} (w:dj D) (z:dj y)
  (o:aF i 0=false) (G:aF i (ofNat es.length)=true)
  (H:ap ba 23 [.dat (.slice es),.dat (.flat (.int .i64 i))]=some ⟨.ref [i64 op,i64 h,i64 a,i64 b,i64 m,sb n,D,i64 k,sb t,i64 A,y,i64 C,i64 I,sb c,nl],.keep⟩)
  {d f g e j:Bool} (q:aB op 12=d) (u:aB op 16=f) (v:aB op 19=g) (r:aB op 13=e) (l:aF (an .i64 (i+1)) (ofNat es.length)=j) {F:List ak}
  (J:ae 61 [.dat nl,iv m] (.dat (.slice [iN m]))) (K:ae 61 [.dat nl,iv (an .i64 (i+1))] (.dat (.slice [iN (an .i64 (i+1))]))) (M:ae 61 [.dat (.slice [iN m]),iv (an .i64 (i+1))] (.dat (.slice F))) :
  ae 29 [.dat (aN p s (.slice es) B),iv i] (match d with|true=>.own [iN m]|false=>.dat (csD d f g e j m (an .i64 (i+1)) F)):=by
 have L:=@aS p s (.slice es) _ (.inr ⟨_,rfl⟩) E;have N:=@yv false op h a b m n _ k t A _ C I c w z;have O:=@Ic 6 op h a b m n _ k t A _ C I c w z;refine co [8,14,24,29,30,32,42] [2,19,20,100006] (x:=.of Tryz.f29 P8 QD) ?_;refine oo L (ob o (ox G (oo H (oo N (oo O (ob q ?_))))))
 cases d
 ·refine ob u ?_
  cases f
  ·refine ob v ?_
   cases g
   ·refine ob r ?_
    cases e
    ·refine ob l ?_
     cases j
     ·exact fi
     exact on K fi
    refine on J (ob l ?_)
    cases j
    ·exact fi
    exact on M fi
   exact fi
  exact fi
 exact fi
theorem Ks {c:Int} (a:c≠12) (b:c≠16) (f:c≠19):(lU (eO c)).fin=false:=by
 cases h:eO c with
 | none=>rfl
 | some s=>
  obtain⟨n,rfl,g,G,d⟩:=pT h;have e:n=1∨n=2∨n=3∨n=4∨n=5∨n=6∨n=7∨n=8∨n=9∨n=10∨n=11∨n=12∨n=13∨n=14∨n=15∨n=16∨n=17∨n=18∨n=19∨n=20∨n=21∨n=22:=by omega
  rcases e with rfl|rfl|rfl|rfl|rfl|rfl|rfl|rfl|rfl|rfl|rfl|rfl|rfl|rfl|rfl|rfl|rfl|rfl|rfl|rfl|rfl|rfl <;> first
   |(cases d;rfl)
   |grind
   |exact absurd rfl b
   |exact absurd rfl f
theorem FD {b:Int} (a:b≠13):(lU (eO b)).cond=false:=by
 cases d:eO b with
 | none=>rfl
 | some s=>
  obtain⟨n,rfl,g,G,c⟩:=pT d;have e:n=1∨n=2∨n=3∨n=4∨n=5∨n=6∨n=7∨n=8∨n=9∨n=10∨n=11∨n=12∨n=13∨n=14∨n=15∨n=16∨n=17∨n=18∨n=19∨n=20∨n=21∨n=22:=by omega
  rcases e with rfl|rfl|rfl|rfl|rfl|rfl|rfl|rfl|rfl|rfl|rfl|rfl|rfl|rfl|rfl|rfl|rfl|rfl|rfl|rfl|rfl|rfl <;> first
   |(cases c;rfl)
   |grind
theorem QU (a x:Int):Eu [a] x=rF x a:=by
 unfold Eu rF
 by_cases h:a < x
 ·rw[if_pos h];have e:kW [a] x=1:=by simp[kW,dA,h]
  rw[e];rfl
 rw[if_neg h];have e:kW [a] x=0:=by simp[kW,dA,h]
 rw[e];show (match aB a x with|true=>[a]|false=>fw [a] 0 x)=_
 by_cases b:x=a
 ·grind[eu]
 rw[if_neg b]
 have:aB a x=false:=by rw[cN];grind
 rw[this];rfl
theorem Xx {e:List Ins} {z:ak} {x:Ins} (H:dj z) (A:e[i]?=some x) (N:e.length < 1000000000) :
  ae 29 [.dat (aN p s (.slice (encI e)) z),iv (ofNat i)] (.dat (sl ((afn e.length x.op x.im i).map iN))):=by
 have J:=xn A;obtain⟨op,G,a,b,m,n,D,u,⟨k,t,L,K⟩,C,I,c⟩:=x;have v:i < e.length:=(List.getElem?_eq_some_iff.1 A).1;have q:an .i64 (ofNat i+1)=ofNat (i+1):=bb (by omega);have w:aF (an .i64 (ofNat i+1)) (ofNat (encI e).length)=decide (i+1 < e.length):=by
  rw[q,bH,gv]
 have B:=fun y=>ko (GH (x:=y) (fE (a:=[]) (b:=[y]) (by simp)))
 have M:ae 61 [.dat (.slice [iN m]),iv (an .i64 (ofNat i+1))] (.dat (.slice ((rF (ofNat (i+1)) m).map iN))):=by
  have h:=Xy (l:=[m]) (x:=an .i64 (ofNat i+1)) (by simp);rw[QU,q] at h
  have:=DM (ofNat (i+1)) m
  rw[q];generalize rF (ofNat (i+1)) m=l at *
  cases l with
  | nil=>exact absurd rfl this
  | cons a r=>exact h
 have h:=ZD (p:=p) (s:=s) (es:=encI e) (i:=ofNat i) H (dq D (u.map iN)) (dr (ax K)) (by rw[dA];simp) (by rw[bH,gv,decide_eq_true v]) J (op:=op) rfl rfl rfl rfl w (B m) (B _) M;rw[q] at h;show ae 29 _ (.dat (sl ((afn e.length op m i).map iN)))
 by_cases f:op=12
 ·subst f;exact ko h
 rw[dL f] at h;refine Eq.mp (congrArg (fun d=>ae 29 _ (.dat d)) ?_) h
 by_cases j:op=16
 ·subst j;rfl
 by_cases o:op=19
 ·subst o;rfl
 rw[dL j,dL o];unfold afn csD;rw[Ks f j o,dL f]
 by_cases g:op=13
 ·subst g;have E:(lU (eO 13)).cond=true:=rfl;have F:aB 13 13=true:=rfl;rw[E,F]
  cases decide (i+1 < e.length) with
  | true=>
   simp only[Bool.false_eq_true,if_false,Bool.or_self,if_true,Bool.not_false,Bool.true_and,Bool.or_false]
   have:=DM (ofNat (i+1)) m
   generalize rF (ofNat (i+1)) m=l at *
   cases l with
   | nil=>exact absurd rfl this
   | cons a r=>rfl
  | false=>rfl
 rw[FD g,dL g]
 cases decide (i+1 < e.length) <;> rfl
def na (a:List Ins) (i:Nat):List Nat:=((match a[i]? with|some x=>afn a.length x.op x.im i|none=>[]).map Int.toNat).filter (fun j=>decide (j < a.length))
def Bi (a:List Ins) (i:Nat):Bool:=match a[i]? with|some x=>(lU (eO x.op)).call|none=>false
def eh (a:List Ins):Gr:=⟨a.length,na a,Bi a,fun i _ j b=>by
 unfold na at b
 have:=(List.mem_filter.1 b).2
 simpa using this⟩
def tR (a:List Ins):Prop:=∀(i:Nat) (x:Ins),a[i]?=some x->∀j∈afn a.length x.op x.im i,0<=j/\j < ofNat a.length
theorem Fj {b:List Ins} (h:tR b) {x:Ins} (e:b[i]?=some x):(na b i).map ofNat=afn b.length x.op x.im i:=by
 have c:=h i x e;unfold na;rw[e];dsimp only;generalize afn b.length x.op x.im i=l at c
 induction l with
 | nil=>rfl
 | cons a r d=>
  have A:=c a List.mem_cons_self;have d:=d (fun j f=>c j (List.mem_cons_of_mem _ f));have g:a.toNat < b.length:=by grind
  grind
theorem Ma (n:Nat) (a m:Int) (i:Nat):(afn n a m i).length<=2:=by
 grind[afn,rF]
theorem vm (a:List Ins) (i:Nat):(na a i).length<=2:=by
 grind[na,Ma]
theorem Gk {q sl:Int} {c:List Ins} (h:c.all (fun x=>iJ (ofNat c.length) q sl x)=true):tR c:=by
 intro i x o j g;have p:x∈c:=List.mem_of_getElem? o;have r:=(List.getElem?_eq_some_iff.1 o).1;have V:=List.all_eq_true.1 h x p;have l:(x.op=12∨x.op=13)->0<=x.im/\x.im < ofNat c.length:=by
  intro O;unfold iJ at V
  split at V
  ·simp at V
  simp only[Bool.and_eq_true] at V;have d:=V.2.1;unfold GL at d
  have:(aB x.op 12||aB x.op 13)=true:=by
   rcases O with h|h <;> rw[h] <;> rfl
  rw[if_pos this] at d;simp only[Bool.and_eq_true,Bool.not_eq_true',dA,decide_eq_false_iff_not,decide_eq_true_eq] at d;omega
 have e:(lU (eO x.op)).cond=true∨aB x.op 12=true->x.op=12∨x.op=13:=by
  rintro (h|h)
  ·by_cases k:x.op=13
   ·exact .inr k
   exfalso
   rw[FD k] at h;simp at h
  rw[cN] at h;exact .inl (by simpa using h)
 have n:∀{a b j:Int},j∈rF a b->j=a∨j=b:=by
  intro a b j h;unfold rF at h
  split at h
  ·simp at h;rcases h with h|h
   ·exact .inr h
   exact .inl h
  split at h
  ·simp at h;exact .inl h
  simp at h;exact h
 unfold afn at g
 split at g
 ·rename_i m d;simp only[Bool.and_eq_true,decide_eq_true_eq] at m;simp only[Bool.or_eq_true] at d;have f:=l (e d)
  rcases n g with h|h
  ·subst h;simp only[Int.ofNat_eq_natCast];omega
  subst h;exact f
 ·rename_i m d;simp only[Bool.and_eq_true,decide_eq_true_eq] at m;simp at g;subst g;simp only[Int.ofNat_eq_natCast];omega
 ·rename_i m d;simp only[Bool.or_eq_true] at d;simp at g;subst g;exact l (e d)
 simp at g
open Classical in
noncomputable def lO (ins:List Ins):Bool:=decide (eh ins).yN
theorem yM {a:List Ins} (h:(eh a).yN):lO a=true:=by grind[lO]
theorem E8 {a:List Ins} (h:(eh a).cover):lO a=false:=by unfold lO;simpa using Gr.JW h
theorem xr (a:List Ins) (b:List Nat):∀k,fresh (eh a) b k<=8*k
 | 0=>Nat.le_refl _
 | k+1=>by
  have c:=xr a b k;have h:((eh a).succ k).length<=2:=vm a k;simp only[fresh]
  grind
theorem Ia (G:Gr) (c:List Nat) (b:List (Nat×Nat)):b.length<=rI G c b:=by
 unfold rI
 have:b.length<=(b.map (fun x=>LZ x.2 (G.succ x.1).length)).sum:=by
  induction b with
  | nil=>simp
  | cons a r d=>
   simp
   have:1<=LZ a.2 (G.succ a.1).length:=by unfold LZ;grind
   omega
 omega
theorem Jh (a:List Ins) (b:List Nat) (i:Nat):rI (eh a) b [(i,0)]<=8*a.length+1:=by
 have:=xr a b a.length
 show fresh (eh a) b a.length+_<=_;simp only[List.map_cons,List.map_nil,List.sum_cons,List.sum_nil,LZ,if_true];omega
noncomputable def NT:TI:=match Go.Tp.elemOf ba 146 with|some t=>t|none=>default
theorem Wy:Go.Tp.elemOf ba 146=some NT:=by kernel_rfl
theorem yO:NT.size=2:=by kernel_rfl
theorem XW {m:Name} (h:n < 1000000000):kb ba 146 [.win m 2 0 n] none=some ⟨iv (ofNat n),.keep⟩:=by
 have e:kb ba 146 [.win m 2 0 n] none=if Nat.ble n lim=true then some ⟨iv (ofNat n),.keep⟩ else none:=by kernel_rfl
 rw[e,if_pos];rw[Nat.ble_eq];simp only[lim];omega
theorem ab6 {m:Name} {n k:Nat} (h:k < n):ap ba 146 [.win m 2 0 n,iv (ofNat k)]=some ⟨.ptr m (k*2),.keep⟩:=by
 have:=Go.Tp.uA (m:=m) (off:=0) (s:=2) Wy yO.symm h
 grind
theorem Vw {m:Name} {k:Nat} (x:Operand):fF ba 146 none (some x) none [.win m 2 0 (k+1),iv (ofNat k)]=some ⟨.win m 2 0 k,.keep⟩:=by
 have e:fF ba 146 none (some x) none [.win m 2 0 (k+1),iv (ofNat k)]=if (Nat.ble 0 k&&Nat.ble k (k+1)&&Nat.beq 2 NT.size)=true then some ⟨.win m 2 0 k,.keep⟩ else none:=by kernel_rfl
 simp_all[yO]
theorem Ch:∀(l:List Int) (k:Nat),fb k (cH l)=cH (l.take k)
 | l,0=>by simp[fb,cH]
 | [],k+1=>by simp[fb,cH]
 | a::r,k+1=>by
  have:=Ch r k
  simp only[cH,List.map_cons,fb,List.take_succ_cons] at this ⊢;grind
theorem ad1 {m:Name} {l:List Int} {k:Nat} (x:Int) (a:k < 100000000) (b:2*k<=l.length) :
  bB ba true 146 [.win m 2 0 k,.dat (.slice [.agg [iN x,iN 0]])] (some (.cells (cH l)))=some ⟨.undef,.grow (.cells (cH (l.take (2*k)++[x,0]))) 2 (k+1)⟩:=by
 have e:bB ba true 146 [.win m 2 0 k,.dat (.slice [.agg [iN x,iN 0]])] (some (.cells (cH l))) =
   if (Nat.ble ((k+1)*NT.bytes) 140737488355328&&Nat.ble (k+1) lim&&Nat.ble (k*NT.size) (cH l).length&&!cd (fb (k*NT.size) (cH l)++[iv x,iv 0]))=true
   then some ⟨.undef,.grow (.cells (fb (k*NT.size) (cH l)++[iv x,iv 0])) NT.size (k+1)⟩ else none:=by kernel_rfl
 have F:fb (k*2) (cH l)++[iv x,iv 0]=cH (l.take (2*k)++[x,0]):=by
  rw[Ch,Nat.mul_comm];simp[cH]
 rw[e,yO,F,wE];have d:NT.bytes<=1000:=fD (by kernel_rfl);have f:Nat.ble ((k+1)*NT.bytes) 140737488355328=true:=by
  rw[Nat.ble_eq]
  calc (k+1)*NT.bytes<=100000000*1000:=Nat.mul_le_mul (by omega) d
   _<=140737488355328:=by decide
 have g:Nat.ble (k+1) lim=true:=by rw[Nat.ble_eq];simp only[lim];omega
 have G:Nat.ble (k*2) (cH l).length=true:=by rw[Nat.ble_eq,show (cH l).length=l.length from List.length_map _];omega
 grind
theorem AZ (a b:Nat):aB (ofNat a) (ofNat b)=decide (a=b):=by
 rw[cN]
 grind
theorem Ib {st:List Nat} (m:Name) (v:Nat) (h:i < st.length):cG ba 3 [.ptr m i,iv (ofNat v)] (some (.cells (cH (st.map ofNat))))=some ⟨.undef,.set (.cells (cH ((st.set i v).map ofNat)))⟩:=by
 simp_all[N5]
theorem R9 {st:List Nat} (h:i < st.length):(st.map ofNat)[i]?=some (ofNat (gg st i)):=by
 rw[List.getElem?_map,List.getElem?_eq_getElem h];unfold gg;grind
def tw (a:List (Nat×Nat)):List Int:=a.reverse.flatMap (fun x=>[ofNat x.1,ofNat x.2])
theorem nb (i e:Nat) (r:List (Nat×Nat)):tw ((i,e)::r)=tw r++[ofNat i,ofNat e]:=by simp[tw]
theorem lS:∀a:List (Nat×Nat),(tw a).length=2*a.length
 | []=>rfl
 |(i,e)::r=>by rw[nb,List.length_append,lS r];grind
theorem Kj {b:List Int} {e:Nat} (h:b.take (2*(r.length+1))=tw ((i,e)::r)):b[r.length*2]?=some (ofNat i)/\b[r.length*2+1]?=some (ofNat e)/\b.take (2*r.length)=tw r/\2*(r.length+1)<=b.length:=by
 rw[nb] at h;have l:=lS r;have c:2*(r.length+1)<=b.length:=by
  have:=congrArg List.length h
  grind
 have a:∀j,j < 2*(r.length+1)->b[j]?=(tw r++[ofNat i,ofNat e])[j]?:=by
  grind
 refine⟨?_,?_,?_,c⟩
 ·rw[a _ (by omega),List.getElem?_append_right (by omega),l,show r.length*2 - 2*r.length=0 by omega];rfl
 ·rw[a _ (by omega),List.getElem?_append_right (by omega),l,show r.length*2+1 - 2*r.length=1 by omega];rfl
 have:=congrArg (List.take (2*r.length)) h
 grind
theorem SO {a:List Int} {e:Nat} (h:a.take (2*(r.length+1))=tw ((i,e)::r)):(a.set (r.length*2+1) (ofNat (e+1))).take (2*(r.length+1))=tw ((i,e+1)::r):=by
 have l:=lS r;rw[List.take_set,h,nb,nb,List.set_append_right _ _ (by omega),l,show r.length*2+1 - 2*r.length=1 by omega];rfl
noncomputable abbrev NE (p sl:Int) (a:List Ins) (c:ak) (m:Nat) (d:List Int) (e:List Nat) (b:Nat) (start:Nat):aa:=(pM m (cC p sl (.slice (encI a)) c) (cH d) (cH (e.map ofNat)) b (ofNat start) (ofNat a.length) a.length).al bc
theorem MY {b:List ac} {sl:Int} {f g:ak} (i:b=cC p sl f g) {c:List ac} {start n d:Int}:gF cM ((Cq 1 b K c a start n N d).al bc) ((pM 1 b K c a start n N).al bc):=by
 have h:=me (G:=cM) (n:=bc) (Cq 1 b K c a start n N d) (2 ^ 18+2 ^ 17+2 ^ 5+2 ^ 3+2 ^ 1);have e:((iL (Cq 1 b K c a start n N d) (fun l=>eE l (2 ^ 18+2 ^ 17+2 ^ 5+2 ^ 3+2 ^ 1))).al bc)=((pM 1 b K c a start n N).al bc):=by kernel_rfl
 grind
theorem UJ {sl:Int} {f:List Ins} {A:ak} (g2:dj A) (V:tR f) (N:f.length < 1000000) {st:List Nat} {e start:Nat} {w:List Int} (hI:(eh f).Inv st ((i,e)::r)) (hk:w.take (2*(r.length+1))=tw ((i,e)::r)) (d:r.length+1 < 10000000) {Q:Exit->aa->Prop}
  (q1:(gg st i=2∨(eh f).call i=true∨e=((eh f).succ i).length)->Q .normal (NE p sl f A 1 w (st.set i 2) r.length start))
  (q2:∀j,((eh f).succ i)[e]?=some j->gg (st.set i 1) j=1->(e=0->gg st i≠2)->(e=0->(eh f).call i=false)->∀F,Q .ret ((Oi (cH F) (cH ((st.set i 1).map ofNat))).al bc))
  (q3:∀j F,((eh f).succ i)[e]?=some j->gg (st.set i 1) j=2->(e=0->gg st i≠2)->(e=0->(eh f).call i=false)->F.take (2*(r.length+1))=tw ((i,e+1)::r)->Q .normal (NE p sl f A 1 F (st.set i 1) (r.length+1) start))
  (q4:∀j a0,((eh f).succ i)[e]?=some j->gg (st.set i 1) j≠1->gg (st.set i 1) j≠2->(e=0->gg st i≠2)->(e=0->(eh f).call i=false)->a0.take (2*(r.length+2))=tw ((j,0)::(i,e+1)::r)->Q .normal (NE p sl f A 2 a0 (st.set i 1) (r.length+2) start)) :
  KD (roundOf Tryz.f68 1) Q (NE p sl f A 1 w st (r.length+1) start):=by
 obtain⟨k1,k2,M,k4⟩:=Kj hk;obtain⟨t1,t2,t3,t4,t5,t6⟩:=hI.top;have a3:i < f.length:=t1;have b2:st.length=f.length:=hI.len;have hx:f[i]?=some f[i]:=List.getElem?_eq_getElem a3;generalize f[i]=x at hx;have y:(eh f).call i=(lU (eO x.op)).call:=by show Bi f i=_;unfold Bi;rw[hx]
 have q:=Fj V hx;have b1:((eh f).succ i).length=(afn f.length x.op x.im i).length:=by rw[←q,List.length_map];rfl
 have hw:an .i64 (ofNat (r.length+1) - 1)=ofNat r.length:=by
  rw[cQ,show ofNat (r.length+1) - 1=ofNat r.length by simp];exact wrap_i64 (by show _<=(r.length:Int);omega) (by show (r.length:Int)<=_;omega)
 have f1:=XW (m:=.out 1) (n:=r.length+1) (by omega);have f2:aF 0 (ofNat (r.length+1))=true:=br (i:=0) (L:=r.length+1) (by omega);have f3:=@ab6 (.out 1) (r.length+1) r.length (by omega);rw[←hw] at f3;have f4:=Er (.out 1) k1;have f5:=xn hx;have f6:=uT x.op;have f7:=Er (.out 1) k2;have f9:=GB (m:=.out 0) (n:=f.length) a3;have G:=Er (.out 0) (R9 (st:=st) (i:=i) (by omega));have H:=Ib (st:=st) (i:=i) (.out 0) 2 (by omega);have O:=Ib (st:=st) (i:=i) (.out 0) 1 (by omega);have E:=Ib (st:=st.set i 1) (i:=i) (.out 0) 2 (by rw[List.length_set];omega);rw[List.set_set] at E;have B:=Vw (m:=.out 1) (k:=r.length) (.tmp 73);have D:=Vw (m:=.out 1) (k:=r.length) (.tmp 103);rw[←hw] at B D;have v:=ZR (p:=p) (sl:=sl) g2 hx (by omega);have ag:aB (ofNat e) 0=decide (e=0):=AZ e 0;have S:aB (ofNat (gg st i)) 2=decide (gg st i=2):=AZ (gg st i) 2
 -- what the two first tests say
 have U:(decide (e=0)&&(decide (gg st i=2)||(lU (eO x.op)).call))=false->(e=0->gg st i≠2)/\(e=0->(eh f).call i=false):=by
  intro h;rw[y]
  constructor
  ·intro o R;rw[decide_eq_true o,decide_eq_true R] at h;simp at h
  intro o;rw[decide_eq_true o] at h;simp only[Bool.true_and,Bool.or_eq_false_iff] at h;exact h.2
 have z:(decide (e=0)&&(decide (gg st i=2)||(lU (eO x.op)).call))=true->gg st i=2∨(eh f).call i=true∨e=((eh f).succ i).length:=by
  intro h;simp only[Bool.and_eq_true,Bool.or_eq_true,decide_eq_true_eq] at h;rw[y]
  rcases h.2 with h|h
  ·exact .inl h
  exact .inr (.inl h)
 rw[←q] at v;generalize hl:(eh f).succ i=l at *;have T:na f i=l:=hl;rw[T] at v q;obtain⟨op,b0,a,b,im,nm,az,u,⟨xk,t,ix,la⟩,C,I,c⟩:=x
 cases l with
 | nil=>
  have he:e=0:=by simp at t2;exact t2
  subst he;refine M7 (K:=cH w) (ss:=cH (st.map ofNat)) g2 f1 f2 f3 f4 f5 f6 f7 f9 G S H B D O v E (eb _) (eb _) (eb _) ?_ ?_
  ·intro h;exact q1 (z (by simpa using h))
  intro h;exact q1 (.inr (.inr rfl))
 | cons j0 l0=>
  generalize bs:j0::l0=l at *;have be:Go.Proofs.YtmpmgmmcaghacaaGreatDoor.sl ((l.map ofNat).map iN)=.slice ((l.map ofNat).map iN):=by rw[←bs];rfl
  rw[be] at v;have ad:kb ba 22 [.dat (.slice ((l.map ofNat).map iN))] none=some ⟨iv (ofNat l.length),.keep⟩:=by
   have:kb ba 22 [.dat (.slice ((l.map ofNat).map iN))] none=some ⟨iv (ofNat ((l.map ofNat).map iN).length),.keep⟩:=by kernel_rfl
   rw[this,List.length_map,List.length_map]
  have af:aB (ofNat e) (ofNat l.length)=decide (e=l.length):=AZ _ _;have am:an .i64 (ofNat e+1)=ofNat (e+1):=bb (by
   have:l.length<=2:=by rw[←T];exact vm f i
   omega)
  have P:=N5 (l:=w) (i:=r.length*2+1) (.out 1) (ofNat (e+1)) (by omega);rw[←am] at P
  by_cases bt:e < l.length
  ·have J:l[e]?=some l[e]:=List.getElem?_eq_getElem bt;generalize l[e]=j at J;have bk:j < f.length:=by
    have hm:j∈na f i:=by rw[T];exact List.mem_of_getElem? J
    exact (eh f).lt i t1 j hm
   have bf:(l.map ofNat)[e]?=some (ofNat j):=by rw[List.getElem?_map,J];rfl
   have a4:=wb bf;have a5:=GB (m:=.out 0) (n:=f.length) bk;have a6:=Er (.out 0) (R9 (st:=st.set i 1) (i:=j) (by rw[List.length_set];omega));have a7:aB (ofNat (gg (st.set i 1) j)) 1=decide (gg (st.set i 1) j=1):=AZ _ 1;have a8:aB (ofNat (gg (st.set i 1) j)) 2=decide (gg (st.set i 1) j=2):=AZ _ 2;have a9:=@ad1 (.out 1) (w.set (r.length*2+1) (an .i64 (ofNat e+1))) (r.length+1) (ofNat j) (by omega) (by rw[List.length_set];omega);have W:=SO hk;rw[←am] at W;have bo:((w.set (r.length*2+1) (an .i64 (ofNat e+1))).take (2*(r.length+1))++[ofNat j,0]).take (2*(r.length+2))=tw ((j,0)::(i,e+1)::r):=by
    rw[W,nb j 0,List.take_of_length_le]
    ·rfl
    have:=lS ((i,e+1)::r)
    rw[List.length_append,this];simp;omega
   have bx:∀Q0:Exit->aa->Prop,(∀Y s,Q Y s->Q0 Y s)->((decide (e=0)&&(decide (gg st i=2)||(lU (eO op)).call))=false->decide (gg (st.set i 1) j=1)=false->decide (gg (st.set i 1) j=2)=true->Q0 .normal ((Cq 1 (cC p sl (.slice (encI f)) A) (cH (w.set (r.length*2+1) (an .i64 (ofNat e+1)))) (cH ((st.set i 1).map ofNat)) (r.length+1) (ofNat start) (ofNat f.length) f.length (ofNat j)).al bc))->
     KD (roundOf Tryz.f68 1) Q0 (NE p sl f A 1 w st (r.length+1) start):=by
    intro Q0 hQ g;refine Hd (K:=cH w) (ss:=cH (st.map ofNat)) (cl:=false) g2 f1 f2 f3 f4 f5 f6 f7 ag f9 G S H B D O v ad (af.trans (decide_eq_false (by omega))) E (fun _=>a4) P (fun _=>a5) (fun _=>a6) a7 a8 (fun _=>a9) (fun _=>eb _) (eb _) (eb _) (eb _) (eb _) ?_ ?_ ?_ ?_ ?_
    ·intro h;exact hQ _ _ (q1 (z h))
    ·intro _ h;simp at h
    ·intro h _ Z;obtain⟨a1,a2⟩:=U h;exact hQ _ _ (q2 j J (of_decide_eq_true Z) a1 a2 _)
    ·intro h _ Z R;exact g h Z R
    intro h _ Z R;obtain⟨a1,a2⟩:=U h;exact hQ _ _ (q4 j _ J (of_decide_eq_false Z) (of_decide_eq_false R) a1 a2 bo)
   refine iU (bx (fun Y s=>Q Y s∨(Y=.normal/\Q .normal (NE p sl f A 1 (w.set (r.length*2+1) (an .i64 (ofNat e+1))) (st.set i 1) (r.length+1) start)/\s=((Cq 1 (cC p sl (.slice (encI f)) A) (cH (w.set (r.length*2+1) (an .i64 (ofNat e+1)))) (cH ((st.set i 1).map ofNat)) (r.length+1) (ofNat start) (ofNat f.length) f.length (ofNat j)).al bc))) (fun _ _ h=>.inl h) ?_) ?_
   ·intro h Z R;obtain⟨a1,a2⟩:=U h;exact .inr ⟨rfl,q3 j _ J (of_decide_eq_true R) a1 a2 W,rfl⟩
   rintro Y s1 (h|⟨rfl,h,rfl⟩)
   ·exact⟨s1,gF.refl _ _,h⟩
   exact⟨_,MY rfl,h⟩
  have he:e=l.length:=by omega
  refine Hd (K:=cH w) (K3:=[]) (ss:=cH (st.map ofNat)) (cl:=true) (to:=0) (tv:=0) (tof:=0) g2 f1 f2 f3 f4 f5 f6 f7 ag f9 G S H B D O v ad (af.trans (decide_eq_true he)) E (fun h=>by simp at h) P (fun h=>by simp at h) (fun h=>by simp at h) rfl rfl (fun h=>by simp at h) (fun h=>by simp at h) (eb _) (eb _) (eb _) (eb _) ?_ ?_ ?_ ?_ ?_
  ·intro h;exact q1 (z h)
  ·intro h _;exact q1 (.inr (.inr he))
  ·intro _ h;simp at h
  ·intro _ h;simp at h
  intro _ h;simp at h
theorem Ev (k:Nat):∀l:List Int,BI k (cH l)=false
 | []=>rfl
 | a::r=>by show (Sw k (iv a)||BI k (cH r))=_;rw[Ev k r];rfl
def Ft (x y:Nat) (p:List ac) (a:Nat) (start n:Int) (N:Nat):ab:=⟨[(18,iv start),(17,iv n),(5,.win (.out x) 2 0 a),(3,.win (.out y) 1 0 N),(1,.ptr (.loc 1) 0)],[(.loc 1,.cells p)],[],0⟩
def Il (x y:Nat) (p:List ac) (start n:Int) (N:Nat):ab:=⟨[(26,bv false),(18,iv start),(17,iv n),(5,.win (.out x) 2 0 0),(3,.win (.out y) 1 0 N),(1,.ptr (.loc 1) 0)],[(.loc 1,.cells p)],[],0⟩
theorem Ku {p sl:Int} {c d:ak} {a m:Nat} {ρ:Nat->Nat} (o:ρ 0=0) (A:ρ a=m) {e f:List Int} {b N:Nat} {start n:Int} :
  Sq ρ (m+1) ((pM a (cC p sl c d) (cH e) (cH f) b start n N).al bc)=(pM m (cC p sl c d) (cH e) (cH f) b start n N).al bc:=by
 have E:il ρ ((Ft a 0 (cC p sl c d) b start n N).al bc).tmps=((Ft (ρ a) (ρ 0) (cC p sl c d) b start n N).al bc).tmps:=by kernel_rfl
 rw[o,A] at E;have F:jJ ρ [(.loc 1,.cells (cC p sl c d))]=[(.loc 1,.cells (cC p sl c d))]:=by kernel_rfl
 have g:jJ ρ [(.out a,.cells (cH e)),(.out 0,.cells (cH f))]=[(.out m,.cells (cH e)),(.out 0,.cells (cH f))]:=by simp only[jJ,wX,pW,fJ,o,A]
 show (⟨il ρ ((Ft a 0 (cC p sl c d) b start n N).al bc).tmps,jJ ρ [(.loc 1,.cells (cC p sl c d))],jJ ρ [(.out a,.cells (cH e)),(.out 0,.cells (cH f))],m+1⟩:aa)=_;rw[E,F,g];rfl
theorem Xq {sl:Int} (o:ρ 0=0) (A:ρ a=m) {e:List Int} {start n:Int} :
  Sq ρ (m+1) ((Fu a (cC p sl b c) (cH d) (cH e) start n N).al bc)=(Fu m (cC p sl b c) (cH d) (cH e) start n N).al bc:=by
 have E:il ρ ((Il a 0 (cC p sl b c) start n N).al bc).tmps=((Il (ρ a) (ρ 0) (cC p sl b c) start n N).al bc).tmps:=by kernel_rfl
 rw[o,A] at E;have F:jJ ρ [(.loc 1,.cells (cC p sl b c))]=[(.loc 1,.cells (cC p sl b c))]:=by kernel_rfl
 have f:jJ ρ [(.out a,.cells (cH d)),(.out 0,.cells (cH e))]=[(.out m,.cells (cH d)),(.out 0,.cells (cH e))]:=by simp only[jJ,wX,pW,fJ,o,A]
 show (⟨il ρ ((Il a 0 (cC p sl b c) start n N).al bc).tmps,jJ ρ [(.loc 1,.cells (cC p sl b c))],jJ ρ [(.out a,.cells (cH d)),(.out 0,.cells (cH e))],m+1⟩:aa)=_;rw[E,F,f];rfl
def kY (m:Nat):ab:=⟨[(2,bv true)],[],[],m⟩
theorem Xr {a:Nat} {b:List ac} {h:Heap}:∃H,Sq ρ m ((Oi K b).al bc)=⟨((kY m).al bc).tmps,[],H,m⟩:=by
 have E:il ρ ((kY m).al bc).tmps=((kY m).al bc).tmps:=by kernel_rfl
 refine⟨jJ ρ [(.out 1,.cells K),(.out 0,.cells b)],?_⟩;show (⟨il ρ ((kY m).al bc).tmps,[],jJ ρ [(.out 1,.cells K),(.out 0,.cells b)],m⟩:aa)=_;rw[E]
theorem Zu {sl:Int} {e:List Int} {start n:Int}:UH ((pM 1 (cC p sl b c) (cH d) (cH e) a start n N).al bc)=true:=by
 have E:BI 2 ((Ft 1 0 (cC p sl b c) a start n N).al bc).tmps=false:=by kernel_rfl
 have F:GM 2 [(.loc 1,.cells (cC p sl b c))]=false:=by kernel_rfl
 have f:GM 2 [(.out 1,.cells (cH d)),(.out 0,.cells (cH e))]=false:=by
  simp only[GM,Z5,Ev];rfl
 show (!BI 2 ((Ft 1 0 (cC p sl b c) a start n N).al bc).tmps&&(!GM 2 [(.loc 1,.cells (cC p sl b c))]&&(!GM 2 [(.out 1,.cells (cH d)),(.out 0,.cells (cH e))]&&aeQ [(.out 1,.cells (cH d)),(.out 0,.cells (cH e))] 2)))=true;rw[E,F,f];rfl
theorem UL {sl:Int} {d:ak} {f g:List Int} {start n:Int}
  (h:KD (roundOf Tryz.f68 1) (fun e s=>T e (Sq (ig (DW [0,m]) 2 (m+1)) (m+1+(s.next - 2)) s)) ((pM 1 (cC p sl c d) (cH f) (cH g) a start n N).al bc)) :
  KD (roundOf Tryz.f68 1) T ((pM m (cC p sl c d) (cH f) (cH g) a start n N).al bc):=by
 have b:=cL.rn h (DW [0,m]) (m+1) Zu;rw[Ku (m:=m) rfl rfl] at b;refine b.mono ?_;rintro e s ⟨j,i,rfl⟩;exact i
def Vs (m:Nat) (p a:List ac) (start n:Int) (N:Nat):ab:=⟨[(26,bv false),(18,iv start),(17,iv n),(5,.win (.out m) 2 0 0),(3,.win (.out 0) 1 0 N),(1,.ptr (.loc 1) 0)],[(.loc 1,.cells p)],[(.out 0,.cells a)],m+1⟩
theorem UK {sl:Int} {c:List Ins} (g2:dj y) (V:tR c) (N:c.length < 1000000) {L:List Nat} {start:Nat} (hs:start < c.length) (hI:(eh c).Inv L []) (D:∀j,j < start->gg L j=2) :
  KD (.loop (roundOf Tryz.f68 1)) (fun e s=>(e=.exit 2/\∃m g,(eh c).Inv g []/\(∀j,j < start+1->gg g j=2)/\s=(Vs m (cC p sl (.slice (encI c)) y) (cH (g.map ofNat)) (ofNat start) (ofNat c.length) c.length).al bc)∨(e=.ret/\(eh c).yN/\∃m,s=(kY m).al bc))
   (NE p sl c y 1 [ofNat start,0] L 1 start):=by
 have af:KD (.loop (roundOf Tryz.f68 1)) (fun e s=>(e=.exit 2/\∃m g x,(eh c).Inv g []/\(∀j,j < start+1->gg g j=2)/\s=(Fu m (cC p sl (.slice (encI c)) y) (cH x) (cH (g.map ofNat)) (ofNat start) (ofNat c.length) c.length).al bc)∨(e=.ret/\(eh c).yN/\∃m H,s=⟨((kY m).al bc).tmps,[],H,m⟩))
   (NE p sl c y 1 [ofNat start,0] L 1 start):=by
  refine CS (I:=fun μ s=>∃m d l x,(eh c).Inv d l/\(∀j,j < start->gg d j=2)/\(gg d start=2∨start∈l.map Prod.fst)/\x.take (2*l.length)=tw l/\rI (eh c) d l=μ/\μ<=8*c.length+1/\s=NE p sl c y m x d l.length start) ?_ (m:=rI (eh c) L [(start,0)]) ⟨1,L,[(start,0)],[ofNat start,0],hI.start hs,D,.inr (by simp),rfl,rfl,Jh c L start,rfl⟩;rintro μ s ⟨m,d,l,x,z,E,C,k,hμ,hμb,rfl⟩;have M:=Ia (eh c) d l;refine UL ?_
  cases l with
  | nil=>
   refine Rh ?_;rw[show m+1+(((Fu 1 (cC p sl (.slice (encI c)) y) (cH x) (cH (d.map ofNat)) (ofNat start) (ofNat c.length) c.length).al bc).next - 2)=m+1 from rfl,Xq (m:=m) rfl rfl];refine .inl ⟨rfl,m,d,x,z,?_,rfl⟩;intro j w
   by_cases h:j < start
   ·exact E j h
   have:j=start:=by omega
   subst this
   rcases C with h|h
   ·exact h
   simp at h
  | cons t r=>
   obtain⟨i,e⟩:=t;obtain⟨t1,t2,t3,t4,t5,t6⟩:=z.top;have u:i < d.length:=by rw[z.len];exact t1
   have W:r.length+1<=rI (eh c) d ((i,e)::r):=M
   -- what is done stays so
   have n:∀v,(∀j,gg d j=2->j=i->v=2)->(∀j,j < start->gg (d.set i v) j=2):=by
    intro v ad j w;rw[ee u]
    split
    ·rename_i h;exact ad j (E j w) h
    exact E j w
   have B:(e=0->gg d i≠2)->∀j,gg d j=2->j≠i:=by
    intro h j w S;subst S
    by_cases o:e=0
    ·exact h o w
    have:=(t3 (by omega)).1;omega
   refine UJ g2 V N z k (by omega) ?_ ?_ ?_ ?_
   ·intro R;show ∃μ',μ' < μ/\_;rw[show m+1+((NE p sl c y 1 x (d.set i 2) r.length start).next - 2)=m+1 from rfl,Ku (m:=m) rfl rfl];refine⟨_,?_,m,d.set i 2,r,x,z.pop R,n 2 (fun _ _ _=>rfl),?_,(Kj k).2.2.1,rfl,?_,rfl⟩
    ·rw[←hμ];exact Gq u (by decide)
    ·rw[ee u]
     rcases C with h|h
     ·left;split
      ·rfl
      exact h
     rw[List.map_cons,List.mem_cons] at h
     rcases h with h|h
     ·left;rw[if_pos h]
     exact .inr h
    have:=Gq (G:=eh c) (e:=e) (r:=r) u (v:=2) (by decide)
    omega
   ·intro j w A b f K;refine .inr ⟨rfl,z.yN b f w A,m+1+(2 - 2),?_⟩;exact Xr (a:=0) (h:=[])
   ·intro j K w A b f T;have F:e < ((eh c).succ i).length:=(List.getElem?_eq_some_iff.1 w).1;show ∃μ',μ' < μ/\_;rw[show m+1+((NE p sl c y 1 K (d.set i 1) (r.length+1) start).next - 2)=m+1 from rfl,Ku (m:=m) rfl rfl];have O:=CR z b F (.inl rfl:([]:List (Nat×Nat))=[]∨_);refine⟨_,?_,m,d.set i 1,(i,e+1)::r,K,z.skip b f w A,n 1 (fun q Z J=>absurd J (B b q Z)),?_,T,rfl,?_,rfl⟩
    ·rw[←hμ];exact O
    ·rcases C with h|h
     ·left;rw[ee u,if_neg (B b _ h)];exact h
     right;simpa using h
    have Y:rI (eh c) (d.set i 1) ((i,e+1)::r) < rI (eh c) d ((i,e)::r):=O;omega
   intro j P w A Q b f U;have F:e < ((eh c).succ i).length:=(List.getElem?_eq_some_iff.1 w).1;show ∃μ',μ' < μ/\_;rw[show m+1+((NE p sl c y 2 P (d.set i 1) (r.length+2) start).next - 2)=m+1+1 from rfl,@Ku _ _ _ _ 2 (m+1) (ig (DW [0,m]) 2 (m+1)) rfl rfl];have O:=CR z b F (.inr ⟨j,rfl⟩);refine⟨_,?_,m+1,d.set i 1,(j,0)::(i,e+1)::r,P,z.push b f w A Q,n 1 (fun q Z J=>absurd J (B b q Z)),?_,U,rfl,?_,rfl⟩
   ·rw[←hμ];exact O
   ·rcases C with h|h
    ·left;rw[ee u,if_neg (B b _ h)];exact h
    right;rw[List.map_cons,List.mem_cons] at h;simp only[List.map_cons,List.mem_cons]
    rcases h with h|h
    ·exact .inr (.inl h)
    exact .inr (.inr h)
   have Y:rI (eh c) (d.set i 1) ((j,0)::(i,e+1)::r) < rI (eh c) d ((i,e)::r):=O;omega
 refine af.ab4 ?_;rintro e s (⟨rfl,m,g,x,A,b,rfl⟩|⟨rfl,A,m,H,rfl⟩)
 ·exact⟨[(.out 0,.cells (cH (g.map ofNat)))],[(.out m,.cells (cH x))],List.Perm.swap _ _ _,.inl ⟨rfl,m,g,A,b,rfl⟩⟩
 exact⟨[],H,List.Perm.refl _,.inr ⟨rfl,A,m,rfl⟩⟩
def zb (m:Nat) (p a:List ac) (start n:Int) (N:Nat):ab:=⟨[(18,iv start),(17,iv n),(3,.win (.out 0) 1 0 N),(1,.ptr (.loc 1) 0)],[(.loc 1,.cells p)],[(.out 0,.cells a)],m⟩
def Fs (m:Nat) (p a:List ac) (start n:Int) (N:Nat):ab:=⟨[(19,bv false),(18,iv start),(17,iv n),(3,.win (.out 0) 1 0 N),(1,.ptr (.loc 1) 0)],[(.loc 1,.cells p)],[(.out 0,.cells a)],m⟩
theorem Re {sl:Int} {b:List ak} {a:ak} {d:List ac} {start n:Int} (o:aF start n=true)
  (l:KD (.loop (roundOf Tryz.f68 1)) (fun e q=>(e=.exit 2/\∃m c,T .normal ((zb (m+1) (cC p sl (.slice b) a) c (an .i64 (start+1)) n N).al bc)/\q=(Vs m (cC p sl (.slice b) a) c start n N).al bc)∨(e=.ret/\∃m,T .ret ((kY m).al bc)/\q=(kY m).al bc))
   ((pM 1 (cC p sl (.slice b) a) [iv start,iv 0] d 1 start n N).al bc)) :
  KD (roundOf Tryz.f68 0) T ((zb 1 (cC p sl (.slice b) a) d start n N).al bc):=by
 refine aq [19] [] (H:=hFC) (live:=sQ) (ob o ?_);refine lo l ?_;rintro h s (⟨rfl,⟨i,⟨j,f,rfl⟩⟩⟩|⟨rfl,⟨k,g,rfl⟩⟩)
 ·refine⟨_,rfl,?_⟩;exact oe f
 refine⟨_,rfl,?_⟩;exact oe g
theorem UF {sl:Int} {b:List ak} {a:ak} {c:List ac} {start n:Int} (o:aF start n=false) (e:T (.exit 0) ((Fs 1 (cC p sl (.slice b) a) c start n N).al bc)) :
  KD (roundOf Tryz.f68 0) T ((zb 1 (cC p sl (.slice b) a) c start n N).al bc):=by
 exact aq [19] [] (H:=hFC) (live:=sQ) (ob o (oe e))
theorem Zq {c:List ak} {d:ak} (f:dj d) {ss0:List ac} {b:Bool} (N:n=c.length)
  (a:fR ba 22 [iv (ofNat c.length),iv (ofNat c.length)]=some ⟨.undef,.grow (.cells ss0) 1 n⟩) (g:bh (.cells ss0)=true)
  (l:KD (.loop (roundOf Tryz.f68 0)) (fun e q=>(e=.exit 0/\b=false/\∃m j i,q=(Fs m (cC p s (.slice c) d) j i (ofNat c.length) n).al bc)∨(e=.ret/\b=true/\∃m,q=(kY m).al bc))
   ((zb 1 (cC p s (.slice c) d) ss0 0 (ofNat c.length) n).al bc)) :
  ae 68 [.dat (aN p s (.slice c) d)] (bv b):=by
 have h:=@aS p s (.slice c) _ (.inr ⟨_,rfl⟩) f;refine co [500014] [1,14] (x:=.of Tryz.f68 KQ sQ) ?_;refine oo h (oo a (ob g ?_));refine lo l ?_;rintro k s (⟨rfl,rfl,⟨o,⟨r,⟨t,rfl⟩⟩⟩⟩|⟨rfl,rfl,⟨u,rfl⟩⟩) <;>
 ·refine⟨_,rfl,?_⟩;exact fi
def Fq (y:Nat) (p:List ac) (start n:Int) (N:Nat):ab:=⟨[(18,iv start),(17,iv n),(3,.win (.out y) 1 0 N),(1,.ptr (.loc 1) 0)],[(.loc 1,.cells p)],[],0⟩
def Ik (y:Nat) (p:List ac) (start n:Int) (N:Nat):ab:=⟨[(19,bv false),(18,iv start),(17,iv n),(3,.win (.out y) 1 0 N),(1,.ptr (.loc 1) 0)],[(.loc 1,.cells p)],[],0⟩
theorem Vx {sl:Int} (o:ρ 0=0) {start n:Int} :
  Sq ρ m ((zb a (cC p sl b c) (cH d) start n N).al bc)=(zb m (cC p sl b c) (cH d) start n N).al bc:=by
 have E:il ρ ((Fq 0 (cC p sl b c) start n N).al bc).tmps=((Fq (ρ 0) (cC p sl b c) start n N).al bc).tmps:=by kernel_rfl
 rw[o] at E;have F:jJ ρ [(.loc 1,.cells (cC p sl b c))]=[(.loc 1,.cells (cC p sl b c))]:=by kernel_rfl
 have e:jJ ρ [(.out 0,.cells (cH d))]=[(.out 0,.cells (cH d))]:=by simp only[jJ,wX,pW,fJ,o]
 show (⟨il ρ ((Fq 0 (cC p sl b c) start n N).al bc).tmps,jJ ρ [(.loc 1,.cells (cC p sl b c))],jJ ρ [(.out 0,.cells (cH d))],m⟩:aa)=_;rw[E,F,e];rfl
theorem Xo {sl:Int} (o:ρ 0=0) {start n:Int} :
  Sq ρ m ((Fs a (cC p sl b c) (cH d) start n N).al bc)=(Fs m (cC p sl b c) (cH d) start n N).al bc:=by
 have E:il ρ ((Ik 0 (cC p sl b c) start n N).al bc).tmps=((Ik (ρ 0) (cC p sl b c) start n N).al bc).tmps:=by kernel_rfl
 rw[o] at E;have F:jJ ρ [(.loc 1,.cells (cC p sl b c))]=[(.loc 1,.cells (cC p sl b c))]:=by kernel_rfl
 have e:jJ ρ [(.out 0,.cells (cH d))]=[(.out 0,.cells (cH d))]:=by simp only[jJ,wX,pW,fJ,o]
 show (⟨il ρ ((Ik 0 (cC p sl b c) start n N).al bc).tmps,jJ ρ [(.loc 1,.cells (cC p sl b c))],jJ ρ [(.out 0,.cells (cH d))],m⟩:aa)=_;rw[E,F,e];rfl
theorem Xp:Sq ρ m ((kY a).al bc)=(kY m).al bc:=by
 rfl
theorem Zt {sl:Int} {a:ak} {c:List Int} {start n:Int}:UH ((zb 1 (cC p sl a b) (cH c) start n N).al bc)=true:=by
 have E:BI 1 ((Fq 0 (cC p sl a b) start n N).al bc).tmps=false:=by kernel_rfl
 have F:GM 1 [(.loc 1,.cells (cC p sl a b))]=false:=by kernel_rfl
 have d:GM 1 [(.out 0,.cells (cH c))]=false:=by
  simp only[GM,Z5,Ev];rfl
 show (!BI 1 ((Fq 0 (cC p sl a b) start n N).al bc).tmps&&(!GM 1 [(.loc 1,.cells (cC p sl a b))]&&(!GM 1 [(.out 0,.cells (cH c))]&&aeQ [(.out 0,.cells (cH c))] 1)))=true;rw[E,F,d];rfl
theorem UE {sl:Int} {a:ak} {start n:Int}
  (h:KD (roundOf Tryz.f68 0) (fun e s=>T e (Sq (ig (DW [0]) 1 m) (m+(s.next - 1)) s)) ((zb 1 (cC p sl a c) (cH d) start n N).al bc)) :
  KD (roundOf Tryz.f68 0) T ((zb m (cC p sl a c) (cH d) start n N).al bc):=by
 have b:=cL.rn h (DW [0]) m Zt;rw[Vx (m:=m) (ρ:=DW [0]) rfl] at b;refine b.mono ?_;rintro e s ⟨g,f,rfl⟩;exact f
theorem ZT {sl:Int} {c:List Ins} {g:ak} (t:dj g) (V:tR c) (N:c.length < 1000000) :
  ae 68 [.dat (aN p sl (.slice (encI c)) g)] (bv (lO c)):=by
 have h:cH (List.replicate c.length 0)=cH ((List.replicate c.length 0).map ofNat):=by simp_all
 have o:=TF (n:=c.length) N;rw[h] at o;have d:(encI c).length=c.length:=bH c;refine Zq (n:=c.length) (ss0:=cH ((List.replicate c.length 0).map ofNat)) t d.symm (by grind) (eb _) ?_;rw[d];have x:KD (.loop (roundOf Tryz.f68 0)) (fun e q=>(e=.exit 0/\lO c=false/\∃m y i,q=(Fs m (cC p sl (.slice (encI c)) g) y i (ofNat c.length) c.length).al bc)∨(e=.ret/\lO c=true/\∃m,q=(kY m).al bc))
   ((zb 1 (cC p sl (.slice (encI c)) g) (cH ((List.replicate c.length 0).map ofNat)) 0 (ofNat c.length) c.length).al bc):=by
  refine CS (I:=fun μ s=>∃i m l,i<=c.length/\μ=c.length - i/\(eh c).Inv l []/\(∀j,j < i->gg l j=2)/\s=(zb m (cC p sl (.slice (encI c)) g) (cH (l.map ofNat)) (ofNat i) (ofNat c.length) c.length).al bc) ?_ (m:=c.length) ⟨0,1,List.replicate c.length 0,Nat.zero_le _,rfl,Gr.Inv.init,fun j v=>absurd v (Nat.not_lt_zero j),rfl⟩;rintro μ s ⟨i,m,l,z,rfl,u,D,rfl⟩;refine UE ?_
  by_cases f:i < c.length
  ·have w:an .i64 (ofNat i+1)=ofNat (i+1):=bb (by omega);refine Re (br f) ?_;refine (UK t V N f u D).mono ?_;rintro e q (⟨rfl,k,r,a,b,rfl⟩|⟨rfl,a,k,rfl⟩)
   ·refine .inl ⟨rfl,k,_,?_,rfl⟩;refine⟨c.length - (i+1),by omega,i+1,m+(k+1 - 1),r,f,rfl,a,b,?_⟩;rw[w];exact Vx (ρ:=ig (DW [0]) 1 m) rfl
   refine .inr ⟨rfl,k,?_,rfl⟩;exact .inr ⟨rfl,yM a,_,Xp⟩
  have:i=c.length:=by omega
  subst this;refine UF (cj (by omega)) ?_;refine .inl ⟨rfl,E8 (u.cover D),_,_,_,Xo (ρ:=ig (DW [0]) 1 m) rfl⟩
 grind
noncomputable def Sx:Hints:=⟨bV,P8,bi,rowsOf bi 71⟩
def Jj (p:List ac):Heap:=[(.loc 1,.cells p)]
def BY (a:List ac):Heap:=[(.out 0,.cells a)]
def Cs (p b:List ac) (n:Nat) (a:Bool):ab:=⟨[(4,bv a),(3,.win (.out 0) 1 0 n),(1,.ptr (.loc 1) 0)],Jj p,BY b,1⟩
def vt (p b:List ac) (n:Nat) (a:Bool) (i:Int):ab:=⟨[(20,bv false),(5,iv i),(4,bv a),(3,.win (.out 0) 1 0 n),(1,.ptr (.loc 1) 0)],Jj p,BY b,1⟩
def Oj (p a:List ac) (n:Nat):ab:=⟨[(14,bv false),(3,.win (.out 0) 1 0 n),(1,.ptr (.loc 1) 0)],Jj p,BY a,1⟩
def lT (p b:List ac) (n:Nat) (a:Bool) (i:Int):ab:=⟨[(5,iv i),(4,bv a),(3,.win (.out 0) 1 0 n),(1,.ptr (.loc 1) 0)],Jj p,BY b,1⟩
def DL (p b:List ac) (n:Nat) (a:Bool) (i:Int):ab:=⟨[(20,bv false),(5,iv i),(4,bv a),(3,.win (.out 0) 1 0 n),(1,.ptr (.loc 1) 0)],Jj p,BY b,1⟩
def rS (p d:List ac) (n:Nat) (a:Bool) (i:Int) (b:Bool) (c:ak) (k:Int):ab:=⟨[(8,iv k),(7,.dat c),(6,bv b),(5,iv i),(4,bv a),(3,.win (.out 0) 1 0 n),(1,.ptr (.loc 1) 0)],Jj p,BY d,1⟩
def vr (p d:List ac) (n:Nat) (a:Bool) (i:Int) (b:Bool) (c:ak) (k:Int):ab:=⟨[(29,bv false),(8,iv k),(7,.dat c),(6,bv b),(5,iv i),(4,bv a),(3,.win (.out 0) 1 0 n),(1,.ptr (.loc 1) 0)],Jj p,BY d,1⟩
def Cr (a:List ac) (n:Nat) (k:Int):ab:=⟨[(9,iv k),(3,.win (.out 0) 1 0 n)],[],BY a,1⟩
def Im (a:List ac) (n:Nat) (k:Int):ab:=⟨[(66,bv false),(9,iv k),(3,.win (.out 0) 1 0 n)],[],BY a,1⟩
def Io (a:List ac):ab:=⟨[(2,bv true)],[],BY a,1⟩
theorem afb {h:List ak} {g:ak} {d:List ac} {c:Nat} {f b y:Bool} {i j:Int} {a:List ak}
  (l:aF k (ofNat a.length)=true) (m:ap ba 22 [.dat (.slice a),iv k]=some ⟨.ref [iN j],.keep⟩)
  (o:ap ba 35 [.win (.out 0) 1 0 n,iv j]=some ⟨.ptr (.out 0) c,.keep⟩) (q:eB ba false 4 [.ptr (.out 0) c] (some (.cells d))=some ⟨bv y,.keep⟩)
  (e:T .normal ((rS (cC p s (.slice h) g) d n f i (b&&y) (.slice a) (an .i64 (k+1))).al bO)) :
  KD (roundOf Tryz.f71 2) T ((rS (cC p s (.slice h) g) d n f i b (.slice a) k).al bO):=by
 refine aq [29] [37,39,40] (H:=Sx) (live:=jZ) (ob l ?_)
 cases b
 ·exact oe e
 exact oo m (oo o (oo q (oe e)))
theorem adx {f:List ak} {d:ak} {g:List ac} {c b:Bool} {i:Int} {a:List ak}
  (h:aF k (ofNat a.length)=false)
  (e:T (.exit 4) ((vr (cC p s (.slice f) d) g n c i b (.slice a) k).al bO)) :
  KD (roundOf Tryz.f71 2) T ((rS (cC p s (.slice f) d) g n c i b (.slice a) k).al bO):=by
 exact aq [29] [] (H:=Sx) (live:=jZ) (ob h (oe e))
theorem ady {d:List ak} {f:List ac} {a b:Bool} {i:Int}
  (e:T (.exit 4) ((vr (cC p s (.slice d) c) f n a i b nl 0).al bO)) :
  KD (roundOf Tryz.f71 2) T ((rS (cC p s (.slice d) c) f n a i b nl 0).al bO):=by
 refine aq [] [] (H:=Sx) (live:=jZ) ?_;exact oe e
theorem afc {d:List ak} {h:ak} (A:dj h) {m u:List ac} {v:Nat} {r b t y:Bool} {i z:Int} {j:List ak} {c:List ak} (o:aF i 0=false)
  (a:ae 29 [.dat (aN p s (.slice d) h),iv i] (.dat (.slice j)))
  (l:KD (.loop (roundOf Tryz.f71 2)) (fun e q=>e=.exit 4/\q=(vr (cC p s (.slice d) h) m n r i b (.slice j) k).al bO) ((rS (cC p s (.slice d) h) m n r i true (.slice j) 0).al bO))
  (B:ap ba 23 [.dat (.slice d),iv i]=some ⟨.ref (i64 z::c),.keep⟩) (f:ae 110 [iv z] (bv t))
  (g:ap ba 35 [.win (.out 0) 1 0 n,iv i]=some ⟨.ptr (.out 0) v,.keep⟩) (G:eB ba false 4 [.ptr (.out 0) v] (some (.cells m))=some ⟨bv y,.keep⟩)
  (w:cG ba 4 [.ptr (.out 0) v,bv true] (some (.cells m))=some ⟨.undef,.set (.cells u)⟩) (x:bh (.cells u)=true)
  (E:((b||t)&&!y)=true->T .normal ((lT (cC p s (.slice d) h) u n true (an .i64 (i - 1))).al bO))
  (F:((b||t)&&!y)=false->T .normal ((lT (cC p s (.slice d) h) m n r (an .i64 (i - 1))).al bO)) :
  KD (roundOf Tryz.f71 1) T ((lT (cC p s (.slice d) h) m n r i).al bO):=by
 have C:=@aO false 1 p s (.slice d) _ (.inr ⟨_,rfl⟩) A;refine aq [20,600062] [23,56,57,62,100062,47] (H:=Sx) (live:=jZ) (ox o (oo C (on a ?_)));refine lo l ?_;rintro D s ⟨rfl,rfl⟩;refine⟨_,rfl,?_⟩
 cases b
 ·refine oo B (on f ?_)
  cases t
  ·exact oe (F rfl)
  refine oo g (oo G ?_)
  cases y
  ·exact oo g (oo w (ob x (oe (E rfl))))
  exact oe (F rfl)
 refine oo g (oo G ?_)
 cases y
 ·exact oo g (oo w (ob x (oe (E rfl))))
 exact oe (F rfl)
theorem adA {d:List ak} {h:ak} (z:dj h) {j t:List ac} {u:Nat} {m b r y:Bool} {i:Int} {c:List ak} (o:aF i 0=false)
  (a:ae 29 [.dat (aN p s (.slice d) h),iv i] (.dat nl))
  (l:KD (.loop (roundOf Tryz.f71 2)) (fun e q=>e=.exit 4/\q=(vr (cC p s (.slice d) h) j n m i b nl k).al bO) ((rS (cC p s (.slice d) h) j n m i true nl 0).al bO))
  (A:ap ba 23 [.dat (.slice d),iv i]=some ⟨.ref (i64 x::c),.keep⟩) (f:ae 110 [iv x] (bv r))
  (g:ap ba 35 [.win (.out 0) 1 0 n,iv i]=some ⟨.ptr (.out 0) u,.keep⟩) (G:eB ba false 4 [.ptr (.out 0) u] (some (.cells j))=some ⟨bv y,.keep⟩)
  (v:cG ba 4 [.ptr (.out 0) u,bv true] (some (.cells j))=some ⟨.undef,.set (.cells t)⟩) (w:bh (.cells t)=true)
  (E:((b||r)&&!y)=true->T .normal ((lT (cC p s (.slice d) h) t n true (an .i64 (i - 1))).al bO))
  (F:((b||r)&&!y)=false->T .normal ((lT (cC p s (.slice d) h) j n m (an .i64 (i - 1))).al bO)) :
  KD (roundOf Tryz.f71 1) T ((lT (cC p s (.slice d) h) j n m i).al bO):=by
 have B:=@aO false 1 p s (.slice d) _ (.inr ⟨_,rfl⟩) z;refine aq [20,600062] [23,56,57,62,100062,47] (H:=Sx) (live:=jZ) (ox o (oo B (on a ?_)));refine lo l ?_;rintro C s ⟨rfl,rfl⟩;refine⟨_,rfl,?_⟩
 cases b
 ·refine oo A (on f ?_)
  cases r
  ·exact oe (F rfl)
  refine oo g (oo G ?_)
  cases y
  ·exact oo g (oo v (ob w (oe (E rfl))))
  exact oe (F rfl)
 refine oo g (oo G ?_)
 cases y
 ·exact oo g (oo v (ob w (oe (E rfl))))
 exact oe (F rfl)
theorem adz {c:List ak} {d:List ac} {a:Bool} {i:Int} (o:aF i 0=true)
  (e:T (.exit 2) ((DL (cC p s (.slice c) b) d n a i).al bO)) :
  KD (roundOf Tryz.f71 1) T ((lT (cC p s (.slice c) b) d n a i).al bO):=by
 exact aq [20] [] (H:=Sx) (live:=jZ) (ox o (oe e))
theorem afd {a:List ak} {f:List ac} {L:Exit->aa->Prop}
  (l:KD (.loop (roundOf Tryz.f71 1)) L ((lT (cC p s (.slice a) b) f n false (an .i64 (ofNat a.length - 1))).al bO))
  (m:∀e q,L e q->e=.exit 2/\∃d c i,q=(DL (cC p s (.slice a) b) d n c i).al bO/\T .normal ((vt (cC p s (.slice a) b) d n c i).al bO)) :
  KD (roundOf Tryz.f71 0) T ((Cs (cC p s (.slice a) b) f n true).al bO):=by
 have g:KD (.loop (roundOf Tryz.f71 1)) (fun e q=>e=.exit 2/\∃d c i,T .normal ((vt (cC p s (.slice a) b) d n c i).al bO)/\q=(DL (cC p s (.slice a) b) d n c i).al bO) ((lT (cC p s (.slice a) b) f n false (an .i64 (ofNat a.length - 1))).al bO):=
  l.mono (fun e q h=>by grind)
 refine aq [] [] (H:=Sx) (live:=jZ) ?_;refine lo g ?_;rintro k s ⟨rfl,⟨o,⟨r,⟨t,j,rfl⟩⟩⟩⟩;refine⟨_,rfl,?_⟩;exact oe j
theorem adB {b:List ak} {a:ak} {c:List ac} (e:T (.exit 0) ((Oj (cC p s (.slice b) a) c n).al bO)) :
  KD (roundOf Tryz.f71 0) T ((Cs (cC p s (.slice b) a) c n false).al bO):=by
 refine aq [] [] (H:=Sx) (live:=jZ) ?_;exact oe e
theorem afa {a:List ac} {b:Nat} {y:Bool} (c:kb ba 35 [.win (.out 0) 1 0 n] none=some ⟨iv (ofNat n),.keep⟩) (d:aF k (ofNat n)=true)
  (e:ap ba 35 [.win (.out 0) 1 0 n,iv k]=some ⟨.ptr (.out 0) b,.keep⟩) (f:eB ba false 4 [.ptr (.out 0) b] (some (.cells a))=some ⟨bv y,.keep⟩)
  (E:y=true->T .normal ((Cr a n (an .i64 (k+1))).al bO)) (F:y=false->T .ret ((Io a).al bO)) :
  KD (roundOf Tryz.f71 3) T ((Cr a n k).al bO):=by
 refine aq [66] [65,71,72] (H:=Sx) (live:=jZ) (oo c (ob d (oo e (oo f ?_))))
 cases y
 ·exact oe (F rfl)
 exact oe (E rfl)
theorem adw {a:List ac} (b:kb ba 35 [.win (.out 0) 1 0 n] none=some ⟨iv (ofNat n),.keep⟩) (c:aF k (ofNat n)=false)
  (E:T (.exit 6) ((Im a n k).al bO)) :
  KD (roundOf Tryz.f71 3) T ((Cr a n k).al bO):=by
 exact aq [66] [65] (H:=Sx) (live:=jZ) (oo b (ob c (oe E)))
theorem ZC {c:List ak} {d:ak} (i:dj d) {fs0:List ac} {b:Bool} (N:n=c.length)
  (a:fR ba 35 [iv (ofNat c.length),iv (ofNat c.length)]=some ⟨.undef,.grow (.cells fs0) 1 n⟩) (j:bh (.cells fs0)=true)
  (A:KD (.loop (roundOf Tryz.f71 0)) (fun e q=>∃f,e=.exit 0/\q=(Oj (cC p s (.slice c) d) f n).al bO/\KD (.loop (roundOf Tryz.f71 3)) (fun e q=>(∃k,e=.exit 6/\b=false/\q=(Im f n k).al bO)∨(e=.ret/\b=true/\q=(Io f).al bO)) ((Cr f n 0).al bO)) ((Cs (cC p s (.slice c) d) fs0 n true).al bO)) :
  ae 71 [.dat (aN p s (.slice c) d)] (bv b):=by
 have l:=@aS p s (.slice c) _ (.inr ⟨_,rfl⟩) i;refine co [500013] [1,13] (x:=.of Tryz.f71 P8 jZ) ?_;refine oo l (oo a (ob j ?_));refine lo A ?_;rintro g s ⟨m,rfl,rfl,h⟩;refine⟨_,rfl,?_⟩;refine lo h ?_;rintro g s (⟨o,rfl,rfl,rfl⟩|⟨rfl,rfl,rfl⟩) <;>
 ·refine⟨_,rfl,?_⟩;exact fi
theorem Wx {c:Int} {p d e h:Bool} (a:aB c 14=p) (b:aB c 10=q) (f:aB c 11=d) (g:aB c 22=e) (G:aB c 20=h):ae 110 [iv c] (bv (p||(q||(d||(e||h))))):=by
 refine co [4,7,11,15,19] [] (x:=.of Tryz.f110 P8 QH) ?_;refine ob a ?_
 cases p
 ·refine ob b ?_
  cases q
  ·refine ob f ?_
   cases d
   ·refine ob g ?_
    cases e
    ·refine ob G ?_
     cases h <;>
     ·exact fi
    exact fi
   exact fi
  exact fi
 exact fi
theorem Ow (c:Int):(lU (eO c)).call=(aB c 14||(aB c 10||(aB c 11||(aB c 22||aB c 20)))):=by
 cases m:eO c with
 | none=>
  have h:∀k:Nat,1<=k->k<=22->aB c (ofNat k)=false:=by
   intro k a b;refine dL ?_;rintro rfl
   have:∀n:Nat,1<=n->n<=22->ki n≠none:=by
    intro n
    match n with
    | 0=>intro h;omega
    | 1|2|3|4|5|6|7|8|9|10|11|12|13|14|15|16|17|18|19|20|21|22=>intro _ _ h;simp[ki] at h
    | n+23=>intro _ h;omega
   exact this k a b m
  have i:aB c 14=false:=h 14 (by decide) (by decide);have d:aB c 10=false:=h 10 (by decide) (by decide);have f:aB c 11=false:=h 11 (by decide) (by decide);have l:aB c 22=false:=h 22 (by decide) (by decide);have j:aB c 20=false:=h 20 (by decide) (by decide);rw[i,d,f,l,j];rfl
 | some s=>
  obtain⟨n,rfl,g,G,o⟩:=pT m;have e:n=1∨n=2∨n=3∨n=4∨n=5∨n=6∨n=7∨n=8∨n=9∨n=10∨n=11∨n=12∨n=13∨n=14∨n=15∨n=16∨n=17∨n=18∨n=19∨n=20∨n=21∨n=22:=by omega
  rcases e with rfl|rfl|rfl|rfl|rfl|rfl|rfl|rfl|rfl|rfl|rfl|rfl|rfl|rfl|rfl|rfl|rfl|rfl|rfl|rfl|rfl|rfl <;> (cases o;rfl)
theorem Tm (a:Int):ae 110 [iv a] (bv (lU (eO a)).call):=by
 simp_all[Ow,Wx]
section
abbrev cI (p s:Int) (a:List Ins) (b:ak):List ac:=cC p s (.slice (encI a)) b
theorem Ry {p s:Int} {a:List Ins} {h:ak} (V:tR a) (N:a.length < 1000000) {f:List Bool} (x:f.length=a.length) {g:Bool} {i:Nat} {l:List Nat} (t:∀j∈l,j < a.length) (u:l.length<=2) (v:l≠[]) :
  KD (.loop (roundOf Tryz.f71 2)) (fun e q=>e=.exit 4/\q=(vr (cI p s a h) (pG f) a.length g (ofNat i) (l.all (fun j=>f.getD j false)) (.slice ((l.map ofNat).map iN)) (ofNat l.length)).al bO)
   ((rS (cI p s a h) (pG f) a.length g (ofNat i) true (.slice ((l.map ofNat).map iN)) 0).al bO):=by
 have c:((l.map ofNat).map iN).length=l.length:=by grind
 refine bm (St:=fun k=>(rS (cI p s a h) (pG f) a.length g (ofNat i) ((l.take k).all (fun j=>f.getD j false)) (.slice ((l.map ofNat).map iN)) (ofNat k)).al bO) l.length ?_ ?_ (i:=0) (Nat.zero_le _)
 ·intro k d;have J:l[k]?=some l[k]:=List.getElem?_eq_getElem d;have r:=t _ (List.getElem_mem d);have b:(l.take (k+1)).all (fun j=>f.getD j false)=((l.take k).all (fun j=>f.getD j false)&&f.getD l[k] false):=by
   rw[List.take_succ_eq_append_getElem d,List.all_append];simp
  generalize l[k]=j at J r b;have m:(l.map ofNat)[k]?=some (ofNat j):=by grind
  have w:an .i64 (ofNat k+1)=ofNat (k+1):=bb (by omega);have o:f[j]?=some (f.getD j false):=by
   grind
  refine afb (br (by grind)) (wb m) (vV (n:=a.length) r) (Jp (.out 0) o) ?_;rw[w,←b];exact rfl
 refine adx (cj (by omega)) ?_;rw[List.take_length];exact⟨rfl,rfl⟩
variable {f:List Bool} {p s:Int}
theorem Rw {a:List Ins} {c:ak} {b:Bool} {i:Int} :
  KD (.loop (roundOf Tryz.f71 2)) (fun e q=>e=.exit 4/\q=(vr (cI p s a c) (pG f) a.length b i true nl 0).al bO)
   ((rS (cI p s a c) (pG f) a.length b i true nl 0).al bO):=by
 refine bm (St:=fun _=>(rS (cI p s a c) (pG f) a.length b i true nl 0).al bO) 0 (fun i d=>absurd d (by omega)) ?_ (i:=0) (Nat.le_refl _);exact ady ⟨rfl,rfl⟩
def Bb (a:List Ins) (f:List Bool) (i:Nat):Bool:=(na a i).all (fun j=>f.getD j false)||Bi a i
theorem RA {d:List Ins} {k:ak} (v:dj k) (V:tR d) (N:d.length < 1000000) (O:f.length=d.length) {r:Bool} {i:Nat} (z:i < d.length) {T:ej}
  (E:(Bb d f i&&!f.getD i false)=true->T .normal ((lT (cI p s d k) (pG (f.set i true)) d.length true (an .i64 (ofNat i - 1))).al bO))
  (F:(Bb d f i&&!f.getD i false)=false->T .normal ((lT (cI p s d k) (pG f) d.length r (an .i64 (ofNat i - 1))).al bO)) :
  KD (roundOf Tryz.f71 1) T ((lT (cI p s d k) (pG f) d.length r (ofNat i)).al bO):=by
 have q:d[i]?=some d[i]:=List.getElem?_eq_getElem z;generalize d[i]=x at q;have h:=Fj V q;have e:Bi d i=(lU (eO x.op)).call:=by unfold Bi;rw[q]
 have o:aF (ofNat i) 0=false:=by rw[dA];simp
 have w:=Xx (p:=p) (s:=s) v q (by omega);have H:=xn q;have J:=Tm x.op;have g:=vV (m:=.out 0) (n:=d.length) z;have y:f[i]?=some (f.getD i false):=by
  rw[List.getD_eq_getElem?_getD,List.getElem?_eq_getElem (by omega)];rfl
 have G:=Jp (.out 0) y;have K:=WD (l:=f) (i:=i) (.out 0) true (by omega);rw[←h] at w;have D:Bb d f i=((na d i).all (fun j=>f.getD j false)||(lU (eO x.op)).call):=by unfold Bb;rw[e]
 rw[D] at E F;have B:∀j∈na d i,j < d.length:=(eh d).lt i z;have A:=vm d i;generalize na d i=l at *;obtain⟨Z,L,a,b,Q,Y,P,u,⟨xk,t,R,W⟩,C,I,c⟩:=x
 cases l with
 | nil=>exact adA v o w Rw H J g G K (qZ _) E F
 | cons S U=>
  have M:=@Ry p s _ k V N _ O r i _ B A (by simp);exact afc v o w M H J g G K (qZ _) E F
def Ts (j:Nat):Int:=match j with|0=>-1|i+1=>ofNat i
theorem CK {j:Nat} (h:j < 1000000):an .i64 (ofNat j - 1)=Ts j:=by
 rw[cQ]
 cases j with
 | zero=>rfl
 | succ i=>
  rw[show ofNat (i+1) - 1=ofNat i by simp];exact wrap_i64 (by grind) (by grind)
def pw (f:List Bool):Nat:=f.countP (fun b=>!b)
theorem MN {i:Nat} (c:i < f.length) (h:f.getD i false=false):pw (f.set i true)+1=pw f:=by
 grind[pw]
theorem Rz {c:List Ins} {o:ak} (y:dj o) (V:tR c) (N:c.length < 1000000) (z:f.length=c.length) (hS:(eh c).Sound f) :
  KD (.loop (roundOf Tryz.f71 1)) (fun e q=>e=.exit 2/\∃d g i,d.length=c.length/\(eh c).Sound d/\(g=true->pw d < pw f)/\(g=false->d=f/\(eh c).fp f)/\q=(DL (cI p s c o) (pG d) c.length g i).al bO)
   ((lT (cI p s c o) (pG f) c.length false (an .i64 (ofNat (encI c).length - 1))).al bO):=by
 rw[bH,CK N];refine CS (I:=fun μ q=>∃d g,μ<=c.length/\d.length=c.length/\(eh c).Sound d/\(g=true->pw d < pw f)/\(g=false->d=f/\∀i,μ<=i->i < c.length->Bb c f i=true->f.getD i false=true)/\q=(lT (cI p s c o) (pG d) c.length g (Ts μ)).al bO) ?_ (m:=c.length) ⟨f,false,Nat.le_refl _,z,hS,fun h=>by simp at h,fun _=>⟨rfl,fun i a b=>by omega⟩,rfl⟩;rintro μ q ⟨d,g,hμ,k,r,a,b,rfl⟩
 cases μ with
 | zero=>
  refine adz (by rfl) ?_;refine⟨rfl,d,g,Ts 0,k,r,a,?_,rfl⟩;intro n;obtain⟨C,K⟩:=b n;refine⟨C,?_⟩;intro i u D;refine K i (Nat.zero_le _) u ?_;unfold Bb
  rcases D with D|D
  ·have:Bi c i=true:=D
   rw[this,Bool.or_true]
  have:(na c i).all (fun j=>f.getD j false)=true:=List.all_eq_true.2 D
  rw[this,Bool.true_or]
 | succ i=>
  have u:i < c.length:=hμ;have x:an .i64 (ofNat i - 1)=Ts i:=CK (by omega);refine RA y V N k u ?_ ?_
  ·intro n;simp only[Bool.and_eq_true,Bool.not_eq_true'] at n;rw[x];have l:=MN (by omega:i < d.length) n.2;refine⟨i,Nat.lt_succ_self i,d.set i true,true,by omega,by rw[List.length_set];exact k,?_,?_,fun h=>by simp at h,rfl⟩
   ·refine r.set (by omega) ?_;have D:=n.1;unfold Bb at D;rw[Bool.or_eq_true] at D
    rcases D with D|D
    ·exact .inr (fun j A=>List.all_eq_true.1 D j A)
    exact .inl D
   intro _
   cases g
   ·obtain⟨rfl,_⟩:=b rfl;omega
   have:=a rfl;omega
  intro n;rw[x];refine⟨i,Nat.lt_succ_self i,d,g,by omega,k,r,a,?_,rfl⟩;intro t;obtain⟨rfl,K⟩:=b t;refine⟨rfl,?_⟩;intro j B v D
  by_cases w:j=i
  ·subst w;rw[D,Bool.true_and] at n;simpa using n
  exact K j (by omega) v D
theorem MZ {f:List ac} {b c:ak} {n:Nat} {a:Bool} {i:Int}:gF cM ((vt (cC p s b c) f n a i).al bO) ((Cs (cC p s b c) f n a).al bO):=by
 have h:=me (G:=cM) (n:=bO) (vt (cC p s b c) f n a i) (2 ^ 4+2 ^ 3+2 ^ 1);have e:((iL (vt (cC p s b c) f n a i) (fun l=>eE l (2 ^ 4+2 ^ 3+2 ^ 1))).al bO)=((Cs (cC p s b c) f n a).al bO):=by kernel_rfl
 grind
theorem Rx {ins:List Ins} (N:ins.length < 1000000) (h:f.length=ins.length) :
  KD (.loop (roundOf Tryz.f71 3)) (fun e q=>(∃k,e=.exit 6/\f.any (fun b=>!b)=false/\q=(Im (pG f) ins.length k).al bO)∨(e=.ret/\f.any (fun b=>!b)=true/\q=(Io (pG f)).al bO)) ((Cr (pG f) ins.length 0).al bO):=by
 refine cV (St:=fun k=>(Cr (pG f) ins.length (ofNat k)).al bO) (fun k=>f.any (fun b=>!b)=(f.drop k).any (fun b=>!b)) ins.length ?_ ?_ (i:=0) (Nat.zero_le _) rfl
 ·intro k g d;have c:k < f.length:=by omega
  have J:f[k]?=some f[k]:=List.getElem?_eq_getElem c;have D:(f.drop k).any (fun b=>!b)=(!f[k]||(f.drop (k+1)).any (fun b=>!b)):=by rw[List.drop_eq_getElem_cons c];rfl
  generalize f[k]=y at J D;rw[←d] at D;have j:an .i64 (ofNat k+1)=ofNat (k+1):=bb (by omega);refine afa (AA (by omega)) (br g) (vV g) (Jp (.out 0) J) ?_ ?_
  ·rintro rfl;rw[j];exact⟨rfl,D⟩
  rintro rfl;exact .inr ⟨rfl,D,rfl⟩
 intro d;have a:f.any (fun b=>!b)=false:=by grind
 exact adw (AA (by omega)) (cj (by omega)) (.inl ⟨_,rfl,a,rfl⟩)
theorem O7 {ins:List Ins} {j:ak} (t:dj j) (V:tR ins) (N:ins.length < 1000000):ae 71 [.dat (aN p s (.slice (encI ins)) j)] (bv (lO ins)):=by
 have g:(encI ins).length=ins.length:=bH ins;refine ZC (n:=ins.length) (fs0:=pG (List.replicate ins.length false)) t g.symm (by grind[Qm]) (qZ _) ?_;refine CS (I:=fun μ q=>∃f a,f.length=ins.length/\(eh ins).Sound f/\μ=pw f+(if a=true then 1 else 0)/\(a=false->(eh ins).fp f)/\q=(Cs (cI p s ins j) (pG f) ins.length a).al bO) ?_ (m:=pw (List.replicate ins.length false)+1) ⟨List.replicate ins.length false,true,by simp,Gr.Sound.init,rfl,fun h=>by grind,rfl⟩;rintro μ q ⟨f,a,k,hS,rfl,v,rfl⟩
 cases a with
 | false=>
  refine adB ?_;have o:=v rfl;have d:f.any (fun b=>!b)=lO ins:=by
   cases A:f.any (fun b=>!b) with
   | true=>exact (yM (Gr.Sh k o A)).symm
   | false=>
    cases T:lO ins with
    | false=>rfl
    | true=>
     have:(eh ins).yN:=by grind[lO]
     rw[Gr.NQ k hS this] at A;grind
  have u:=Rx (ins:=ins) N k;rw[d] at u;exact⟨pG f,rfl,rfl,u⟩
 | true=>
  refine iU (Q:=fun e q=>e=.normal/\∃c a i,(c.length=ins.length/\(eh ins).Sound c/\(a=true->pw c < pw f)/\(a=false->c=f/\(eh ins).fp f))/\q=(vt (cI p s ins j) (pG c) ins.length a i).al bO) ?_ ?_
  ·refine afd (Rz t V N k hS) ?_;grind
  rintro e q ⟨rfl,c,a,i,⟨r,K,M,l⟩,rfl⟩;refine⟨_,MZ,?_⟩;refine⟨pw c+(if a=true then 1 else 0),?_,c,a,r,K,rfl,?_,rfl⟩
  all_goals grind
end
def B0 (k:Int) (j:List UInt8) (u n:Int) (o:List UInt8) (b:Int) (h:ak) (a:Bool) (i:ak) (l:List UInt8) (q:Int) (t:List UInt8) (d:Int) (p:ak) (L e c:Int) (f g:ak) (m:List UInt8):ak:=.agg [i64 k,sb j,i64 u,i64 n,sb o,i64 b,h,bl a,i,sb l,i64 q,sb t,i64 d,p,i64 L,i64 e,i64 c,f,g,sb m]
def cE (k:Int) (j:List UInt8) (u n:Int) (o:List UInt8) (b:Int) (h:ak) (a:Bool) (i:ak) (l:List UInt8) (q:Int) (t:List UInt8) (d:Int) (p:ak) (L e c:Int) (f g:ak) (m:List UInt8):List ac:=[.dat (i64 k),.dat (sb j),.dat (i64 u),.dat (i64 n),.dat (sb o),.dat (i64 b),.dat h,.dat (bl a),.dat i,.dat (sb l),.dat (i64 q),.dat (sb t),.dat (i64 d),.dat p,.dat (i64 L),.dat (i64 e),.dat (i64 c),.dat f,.dat g,.dat (sb m)]
theorem QK (t:Bool) {p:Int} {o:List UInt8} {u s:Int} {v:List UInt8} {e:Int} {k:ak} {d:Bool} {l:ak} {q:List UInt8} {w:Int} {x:List UInt8} {h:Int} {m:ak} {L n c:Int} {i j:ak} {r:List UInt8} (a:dj k) (b:dj l) (f:dj m) (g:dj i) (G:dj j):eB ba t 53 [.ref [i64 p,sb o,i64 u,i64 s,sb v,i64 e,k,bl d,l,sb q,i64 w,sb x,i64 h,m,i64 L,i64 n,i64 c,i,j,sb r]] none=some ⟨.dat (B0 p o u s v e k d l q w x h m L n c i j r),.keep⟩:=by
 cases t <;> rcases a with rfl|⟨_,rfl⟩ <;> rcases b with rfl|⟨_,rfl⟩ <;> rcases f with rfl|⟨_,rfl⟩ <;> rcases g with rfl|⟨_,rfl⟩ <;> rcases G with rfl|⟨_,rfl⟩ <;> kernel_rfl
theorem Vo (l:Nat) {q:Int} {p:List UInt8} {u v:Int} {w:List UInt8} {e:Int} {k:ak} {d:Bool} {m:ak} {r:List UInt8} {x:Int} {t:List UInt8} {h:Int} {n:ak} {L o c:Int} {i j:ak} {s:List UInt8} (a:dj k) (b:dj m) (f:dj n) (g:dj i) (G:dj j):cG ba 53 [.ptr (.loc l) 0,.dat (B0 q p u v w e k d m r x t h n L o c i j s)] (some (.cells (cE 0 [] 0 0 [] 0 nl false nl [] 0 [] 0 nl 0 0 0 nl nl [])))=some ⟨.undef,.set (.cells (cE q p u v w e k d m r x t h n L o c i j s))⟩:=by
 rcases a with rfl|⟨_,rfl⟩ <;> rcases b with rfl|⟨_,rfl⟩ <;> rcases f with rfl|⟨_,rfl⟩ <;> rcases g with rfl|⟨_,rfl⟩ <;> rcases G with rfl|⟨_,rfl⟩ <;> kernel_rfl
theorem ab5 (t:Bool) (l:Nat) {q:Int} {p:List UInt8} {u v:Int} {w:List UInt8} {e:Int} {k:ak} {d:Bool} {m:ak} {r:List UInt8} {x:Int} {y:List UInt8} {h:Int} {n:ak} {L o c:Int} {i j:ak} {s:List UInt8} (a:dj k) (b:dj m) (f:dj n) (g:dj i) (G:dj j):eB ba t 53 [.ptr (.loc l) 0] (some (.cells (cE q p u v w e k d m r x y h n L o c i j s)))=some ⟨.dat (B0 q p u v w e k d m r x y h n L o c i j s),.keep⟩:=by
 cases t <;> rcases a with rfl|⟨_,rfl⟩ <;> rcases b with rfl|⟨_,rfl⟩ <;> rcases f with rfl|⟨_,rfl⟩ <;> rcases g with rfl|⟨_,rfl⟩ <;> rcases G with rfl|⟨_,rfl⟩ <;> kernel_rfl
theorem adN {p:Int} {o:List UInt8} {u s:Int} {v:List UInt8} {e:Int} {k:ak} {d:Bool} {l:ak} {q:List UInt8} {w:Int} {t:List UInt8} {h:Int} {m:ak} {L n c:Int} {i j:ak} {r:List UInt8} (a:dj k) (b:dj l) (f:dj m) (g:dj i) (G:dj j):Sj [.dat (B0 p o u s v e k d l q w t h m L n c i j r)]=some ⟨.undef,.new (.cells (cE p o u s v e k d l q w t h m L n c i j r))⟩:=by
 rcases a with rfl|⟨_,rfl⟩ <;> rcases b with rfl|⟨_,rfl⟩ <;> rcases f with rfl|⟨_,rfl⟩ <;> rcases g with rfl|⟨_,rfl⟩ <;> rcases G with rfl|⟨_,rfl⟩ <;> kernel_rfl
theorem QL (t:Bool) (l:Nat) {m:Int} {k:List UInt8} {u p:Int} {q:List UInt8} {e:Int} {i:ak} {a:Bool} {j:ak} {n:List UInt8} {s:Int} {v:List UInt8} {f:Int} {r:ak} {L h c:Int} {b d:ak} {o:List UInt8} (g:dj b) (G:dj d):eB ba t 26 [.ptr (.loc l) 15] (some (.cells (cE m k u p q e i a j n s v f r L h c b d o)))=some ⟨.dat (aN h c b d),.keep⟩:=by
 cases t <;> rcases g with rfl|⟨_,rfl⟩ <;> rcases G with rfl|⟨_,rfl⟩ <;> kernel_rfl
def oC (a:List Ins):Bool:=match a[a.length - 1]? with|some x=>(lU (eO x.op)).fin|none=>false
def nt (p q c d e f g h i b j:Bool) (a:Int):Int:=
 if (p||(q||(c||d)))=true then 4 else if (e||(f||(g||h)))=true then 2 else if i=false then 2 else if (!b||j)=true then 2 else a
noncomputable def C0 (d:Nat) (L sl:Int) (a:List Ins) (c:Nat) (b:Int):Int:=
 nt (aF 40 (ofNat d)) (aF 200 sl) (aF 2000 (ofNat a.length)) (aF 2000 (ofNat c)) (aF L 0) (aF 6 L) (aF sl L) (aB (ofNat a.length) 0)
  (a.all (fun x=>iJ (ofNat a.length) (ofNat c) sl x)) (oC a) (lO a) b
def gM.zero (c:gM):Bool:=aB c.pa 0&&(aB c.sl 0&&(aB (ofNat c.ins.length) 0&&aB (ofNat c.cD.length) 0))
def sc (p q a z:Bool) (v:Int):Int:=if (p||q)=true then 2 else if (!a&&!z)=true then 2 else if a=false then 0 else v
mutual
noncomputable def gM.val:gM->Nat->Int
 | .mk L sl _ a _ b=>fun d=>C0 d L sl a b.length (kB b d)
noncomputable def kB:List (List fG)->Nat->Int
 | []=>fun _=>0
 | l::r=>fun d=>if aB (uP l d) 0=true then kB r d else uP l d
noncomputable def uP:List fG->Nat->Int
 | []=>fun _=>0
 | e::r=>fun d=>if aB (e.val d) 0=true then uP r d else e.val d
noncomputable def fG.val:fG->Nat->Int
 | .mk k _ _ _ _ c _=>fun d=>sc (aF k 1) (aF 5 k) (aB k 2) c.zero (c.val (d+1))
end
noncomputable def Z6:Hints:=⟨bV,P8,bi,rowsOf bi 38⟩
def yZ (c:List ac) (d:Int) (a:List ak) (i:Int):ab:=⟨[(59,iv i),(58,iv (ofNat a.length)),(57,.dat (.slice a)),(2,.ptr (.loc 2) 0),(1,iv d)],[(.loc 2,.cells c)],[],0⟩
def DJ (c:List ac) (d:Int) (a:List ak) (i:Int):ab:=⟨[(60,bv false),(59,iv i),(58,iv (ofNat a.length)),(57,.dat (.slice a)),(2,.ptr (.loc 2) 0),(1,iv d)],[(.loc 2,.cells c)],[],0⟩
def pf (e:Int):ab:=⟨[(4,iv e)],[],[],0⟩
def rQ (d n:Int) (S:ak) (i:Int):ab:=⟨[(91,iv i),(90,iv n),(89,.dat S),(1,iv d)],[],[],0⟩
def vp (d n:Int) (S:ak) (i:Int):ab:=⟨[(92,bv false),(91,iv i),(90,iv n),(89,.dat S),(1,iv d)],[],[],0⟩
def Ck (d n:Int) (S:ak) (i:Int) (l:List ak) (k:Int):ab:=⟨[(97,iv k),(96,iv (ofNat l.length)),(95,.dat (.slice l)),(91,iv i),(90,iv n),(89,.dat S),(1,iv d)],[],[],0⟩
def Ie (d n:Int) (S:ak) (i:Int) (l:List ak) (k:Int):ab:=⟨[(98,bv false),(97,iv k),(96,iv (ofNat l.length)),(95,.dat (.slice l)),(91,iv i),(90,iv n),(89,.dat S),(1,iv d)],[],[],0⟩
variable {T:ej} {d i:Int}
theorem aeo {p sl:Int} {f:List ak} {j:ak} (s:dj j) {g e a b m:Int} {n:List UInt8} {k:ak} {h:Int} {t:List UInt8} {x:Int} {y:ak} {C I:Int} {c:List UInt8} (l:dj k) (q:dj y) {r:Bool} (o:aF i (ofNat f.length)=true)
  (u:ap ba 23 [.dat (.slice f),.dat (.flat (.int .i64 i))]=some ⟨.ref [i64 g,i64 e,i64 a,i64 b,i64 m,sb n,k,i64 h,sb t,i64 x,y,i64 C,i64 I,sb c,nl],.keep⟩) (V:ae 67 [.dat (aN p sl (.slice f) j),.dat (eH g e a b m n k h t x y C I c)] (bv r))
  (E:r=true->T .normal ((yZ (cC p sl (.slice f) j) d f (an .i64 (i+1))).al cO)) (F:r=false->T .ret ((pf 2).al cO)) :
  KD (roundOf Tryz.f38 0) T ((yZ (cC p sl (.slice f) j) d f i).al cO):=by
 have v:=@yv false g e a b m n _ h t x _ C I c l q;have w:=@Ic 6 g e a b m n _ h t x _ C I c l q;have z:=@QJ false 6 g e a b m n k h t x y C I c l q;have A:=@aO false 2 p sl (.slice f) _ (.inr ⟨_,rfl⟩) s;refine aq [60] [61,62,100006,63,64] (H:=Z6) (live:=aeM) (ob o (oo u (oo v (oo w (oo A (oo z (on V ?_)))))))
 cases r
 ·exact oe (F rfl)
 exact oe (E rfl)
theorem aaj {p sl:Int} {a:List ak} {b:ak} (o:aF i (ofNat a.length)=false) (e:T (.exit 1) ((DJ (cC p sl (.slice a) b) d a i).al cO)) :
  KD (roundOf Tryz.f38 0) T ((yZ (cC p sl (.slice a) b) d a i).al cO):=by
 exact aq [60] [] (H:=Z6) (live:=aeM) (ob o (oe e))
theorem aep {n:Int} {S:ak} {k v:Int} {l:List ak} {p:Int} {o:List UInt8} {u s:Int} {w:List UInt8} {h:Int} {B:ak} {e:Bool} {C:ak} {q:List UInt8} {x:Int} {t:List UInt8} {j:Int} {D:ak} {L m c:Int} {y A:ak} {r:List UInt8} (a:dj B) (b:dj C) (f:dj D) (g:dj y) (G:dj A) {z:Bool} (I:aF k (ofNat l.length)=true)
  (J:ap ba 54 [.dat (.slice l),.dat (.flat (.int .i64 k))]=some ⟨.ref [i64 p,sb o,i64 u,i64 s,sb w,i64 h,B,bl e,C,sb q,i64 x,sb t,i64 j,D,i64 L,i64 m,i64 c,y,A,sb r],.keep⟩) (V:ae 69 [.dat (B0 p o u s w h B e C q x t j D L m c y A r),iv d] (iv v)) (K:aB v 0=z)
  (E:z=true->T .normal ((Ck d n S i l (an .i64 (k+1))).al cO)) (F:z=false->T .ret ((pf v).al cO)) :
  KD (roundOf Tryz.f38 2) T ((Ck d n S i l k).al cO):=by
 have M:=@QK false p o u s w h _ e _ q x t j _ L m c _ _ r a b f g G;have N:=@Vo 12 p o u s w h _ e _ q x t j _ L m c _ _ r a b f g G;have O:=@ab5 false 12 p o u s w h _ e _ q x t j _ L m c _ _ r a b f g G;refine aq [98,105] [99,100,100012,101] (H:=Z6) (live:=aeM) (ob I (oo J (oo M (oo N (oo O (on V (ox K ?_)))))))
 cases z
 ·exact oe (F rfl)
 exact oe (E rfl)
theorem aak {n:Int} {S:ak} {k:Int} {l:List ak} (a:aF k (ofNat l.length)=false) (e:T (.exit 5) ((Ie d n S i l k).al cO)) :
  KD (roundOf Tryz.f38 2) T ((Ck d n S i l k).al cO):=by
 exact aq [98] [] (H:=Z6) (live:=aeM) (ob a (oe e))
theorem aeq {v:Int} {a l:List ak} {z:Bool} (b:aF i (ofNat a.length)=true)
  (c:ap ba 24 [.dat (.slice a),.dat (.flat (.int .i64 i))]=some ⟨.ref [.slice l],.keep⟩)
  (f:KD (.loop (roundOf Tryz.f38 2)) (fun e q=>(e=.exit 5/\z=true/\∃k,q=(Ie d (ofNat a.length) (.slice a) i l k).al cO)∨(e=.ret/\z=false/\q=(pf v).al cO)) ((Ck d (ofNat a.length) (.slice a) i l 0).al cO))
  (E:z=true->T .normal ((rQ d (ofNat a.length) (.slice a) (an .i64 (i+1))).al cO)) (F:z=false->T .ret ((pf v).al cO)) :
  KD (roundOf Tryz.f38 1) T ((rQ d (ofNat a.length) (.slice a) i).al cO):=by
 refine aq [92] [93] (H:=Z6) (live:=aeM) (ob b (oo c ?_));refine lo f ?_;rintro g s (⟨rfl,rfl,⟨h,rfl⟩⟩|⟨rfl,rfl,rfl⟩)
 ·refine⟨_,rfl,?_⟩;exact oe (E rfl)
 refine⟨_,rfl,?_⟩;exact oe (F rfl)
theorem Ve {n:Int} {S:ak} (a:aF i n=false) (e:T (.exit 3) ((vp d n S i).al cO)) :
  KD (roundOf Tryz.f38 1) T ((rQ d n S i).al cO):=by
 exact aq [92] [] (H:=Z6) (live:=aeM) (ob a (oe e))
theorem aaf {p sl:Int} {es dd:List ak} {b f g h j k m a c r z n:Bool} {v:Int} {s:kG}
  (D:aF 40 d=b) (K:aF 200 sl=f) (F:aF p 0=j) (G:aF 6 p=k) (H:aF sl p=m) (M:aF 2000 (ofNat es.length)=g) (E:aF 2000 (ofNat dd.length)=h) (I:aB (ofNat es.length) 0=a)
  (l:a=false->KD (.loop (roundOf Tryz.f38 0)) (fun e q=>(e=.exit 1/\c=true/\∃i,q=(DJ (cC p sl (.slice es) (.slice dd)) d es i).al cO)∨(e=.ret/\c=false/\q=(pf 2).al cO)) ((yZ (cC p sl (.slice es) (.slice dd)) d es 0).al cO))
  {t:Int} {J:List ak} (B:a=false->ap ba 23 [.dat (.slice es),.dat (.flat (.int .i64 (an .i64 (ofNat es.length - 1))))]=some ⟨.ref (i64 t::J),.keep⟩)
  (C:ae 58 [iv t] (.tup [.dat s.enc,bv n])) (A:c=true->ae 68 [.dat (aN p sl (.slice es) (.slice dd))] (bv r))
  (y:b=false->KD (.loop (roundOf Tryz.f38 1)) (fun e q=>(e=.exit 3/\z=true/\∃i,q=(vp d (ofNat dd.length) (.slice dd) i).al cO)∨(e=.ret/\z=false/\q=(pf v).al cO)) ((rQ d (ofNat dd.length) (.slice dd) 0).al cO)) :
  ae 38 [.dat (aN p sl (.slice es) (.slice dd)),iv d] (iv (nt b f g h j k m a c s.fin r (if z=true then 0 else v))):=by
 have L:=@aO false 2 p sl (.slice es) (.slice dd) (.inr ⟨_,rfl⟩) (.inr ⟨_,rfl⟩);obtain⟨w,O,P,Q,R,S,T,U,V,W,N,o⟩:=s;refine co [16,20,26,32,37,41,48,54] [75,85] (x:=.of Tryz.f38 P8 aeM) ?_;refine ob D ?_
 cases b
 ·refine ob K ?_
  cases f
  ·refine ob M ?_
   cases g
   ·refine ob E ?_
    cases h
    ·refine ob F ?_
     cases j
     ·refine ob G ?_
      cases k
      ·refine ob H ?_
       cases m
       ·refine ob I ?_
        cases a
        ·refine lo (l rfl) ?_;rintro u s (⟨rfl,rfl,⟨Y,rfl⟩⟩|⟨rfl,rfl,rfl⟩)
         ·refine⟨_,rfl,?_⟩;refine oo (B rfl) (on C ?_)
          cases o
          ·exact fi
          refine oo L (on (A rfl) ?_)
          cases r
          ·refine lo (y rfl) ?_;rintro u s (⟨rfl,rfl,⟨Z,rfl⟩⟩|⟨rfl,rfl,rfl⟩) <;>
           ·refine⟨_,rfl,?_⟩;exact fi
          exact fi
         refine⟨_,rfl,?_⟩;exact fi
        exact fi
       exact fi
      exact fi
     exact fi
    exact fi
   exact fi
  exact fi
 exact fi
theorem aag {p sl d:Int} {a O:List ak} {c g h N j k m b f r z n:Bool} {v:Int} {s:kG}
  (D:aF 40 d=c) (K:aF 200 sl=g) (E:aF p 0=j) (F:aF 6 p=k) (G:aF sl p=m) (M:aF 2000 (ofNat a.length)=h) (H:aB (ofNat a.length) 0=b)
  (l:b=false->KD (.loop (roundOf Tryz.f38 0)) (fun e q=>(e=.exit 1/\f=true/\∃i,q=(DJ (cC p sl (.slice a) nl) d a i).al cO)∨(e=.ret/\f=false/\q=(pf 2).al cO)) ((yZ (cC p sl (.slice a) nl) d a 0).al cO))
  {t:Int} {I:List ak} (B:b=false->ap ba 23 [.dat (.slice a),.dat (.flat (.int .i64 (an .i64 (ofNat a.length - 1))))]=some ⟨.ref (i64 t::I),.keep⟩)
  (C:ae 58 [iv t] (.tup [.dat s.enc,bv n])) (A:f=true->ae 68 [.dat (aN p sl (.slice a) nl)] (bv r))
  (y:c=false->KD (.loop (roundOf Tryz.f38 1)) (fun e q=>(e=.exit 3/\z=true/\∃i,q=(vp d 0 nl i).al cO)∨(e=.ret/\z=false/\q=(pf v).al cO)) ((rQ d 0 nl 0).al cO)) :
  ae 38 [.dat (aN p sl (.slice a) nl),iv d] (iv (nt c g h false j k m b f s.fin r (if z=true then 0 else v))):=by
 have J:=@aO false 2 p sl (.slice a) nl (.inr ⟨_,rfl⟩) (.inl rfl);obtain⟨w,P,Q,R,S,T,U,V,W,Y,L,o⟩:=s;refine co [16,20,26,37,41,48,54] [75,85] (x:=.of Tryz.f38 P8 aeM) ?_;refine ob D ?_
 cases c
 ·refine ob K ?_
  cases g
  ·refine ob M ?_
   cases h
   ·refine ob E ?_
    cases j
    ·refine ob F ?_
     cases k
     ·refine ob G ?_
      cases m
      ·refine ob H ?_
       cases b
       ·refine lo (l rfl) ?_;rintro u s (⟨rfl,rfl,⟨Z,rfl⟩⟩|⟨rfl,rfl,rfl⟩)
        ·refine⟨_,rfl,?_⟩;refine oo (B rfl) (on C ?_)
         cases o
         ·exact fi
         refine oo J (on (A rfl) ?_)
         cases r
         ·refine lo (y rfl) ?_;rintro u s (⟨rfl,rfl,⟨x1,rfl⟩⟩|⟨rfl,rfl,rfl⟩) <;>
          ·refine⟨_,rfl,?_⟩;exact fi
         exact fi
        refine⟨_,rfl,?_⟩;exact fi
       exact fi
      exact fi
     exact fi
    exact fi
   exact fi
  exact fi
 exact fi
theorem aah {p sl d:Int} {r g:List ak} {a q n b c e f o t u z m:Bool} {v:Int} {s:kG}
  (h:aF 40 d=a) (K:aF 200 sl=q) (j:aF p 0=c) (k:aF 6 p=e) (l:aF sl p=f) (i:aF 2000 (ofNat g.length)=b) :
  ae 38 [.dat (aN p sl nl (.slice g)),iv d] (iv (nt a q false b c e f true false false false 0)):=by
 refine co [16,20,32,37,41,48] [] (x:=.of Tryz.f38 P8 aeM) ?_;refine ob h ?_
 cases a
 ·refine ob K ?_
  cases q
  ·refine ob i ?_
   cases b
   ·refine ob j ?_
    cases c
    ·refine ob k ?_
     cases e
     ·refine ob l ?_
      cases f <;>
      ·exact fi
     exact fi
    exact fi
   exact fi
  exact fi
 exact fi
theorem aai {p sl d:Int} {o n:List ak} {a q k l b c e m r t z j:Bool} {v:Int} {s:kG}
  (f:aF 40 d=a) (K:aF 200 sl=q) (g:aF p 0=b) (h:aF 6 p=c) (i:aF sl p=e) :
  ae 38 [.dat (aN p sl nl nl),iv d] (iv (nt a q false false b c e true false false false 0)):=by
 refine co [16,20,37,41,48] [] (x:=.of Tryz.f38 P8 aeM) ?_;refine ob f ?_
 cases a
 ·refine ob K ?_
  cases q
  ·refine ob g ?_
   cases b
   ·refine ob h ?_
    cases c
    ·refine ob i ?_
     cases e <;>
     ·exact fi
    exact fi
   exact fi
  exact fi
 exact fi
theorem aab {p sl:Int} {i h:List ak} {c q d e:Bool} (a:aB p 0=c) (b:aB sl 0=q) (f:aB (ofNat i.length) 0=d) (g:aB (ofNat h.length) 0=e):ae 103 [.dat (aN p sl (.slice i) (.slice h))] (bv (c&&(q&&(d&&e)))):=by
 refine co [5,9,15,21] [] (x:=.of Tryz.f103 P8 QG) ?_;refine ob a ?_
 cases c
 ·exact fi
 refine ob b ?_
 cases q
 ·exact fi
 refine ob f ?_
 cases d
 ·exact fi
 refine ob g ?_
 cases e <;>
 ·exact fi
theorem aac {p sl:Int} {e h:List ak} {c q d g:Bool} (a:aB p 0=c) (b:aB sl 0=q) (f:aB (ofNat e.length) 0=d):ae 103 [.dat (aN p sl (.slice e) nl)] (bv (c&&(q&&(d&&true)))):=by
 refine co [5,9,15] [] (x:=.of Tryz.f103 P8 QG) ?_;refine ob a ?_
 cases c
 ·exact fi
 refine ob b ?_
 cases q
 ·exact fi
 refine ob f ?_
 cases d <;>
 ·exact fi
theorem aad {p sl:Int} {h e:List ak} {c q f d:Bool} (a:aB p 0=c) (b:aB sl 0=q) (g:aB (ofNat e.length) 0=d):ae 103 [.dat (aN p sl nl (.slice e))] (bv (c&&(q&&(true&&d)))):=by
 refine co [5,9,21] [] (x:=.of Tryz.f103 P8 QG) ?_;refine ob a ?_
 cases c
 ·exact fi
 refine ob b ?_
 cases q
 ·exact fi
 refine ob g ?_
 cases d <;>
 ·exact fi
theorem aae {p sl:Int} {g f:List ak} {c q d e:Bool} (a:aB p 0=c) (b:aB sl 0=q):ae 103 [.dat (aN p sl nl nl)] (bv (c&&(q&&(true&&true)))):=by
 refine co [5,9] [] (x:=.of Tryz.f103 P8 QG) ?_;refine ob a ?_
 cases c
 ·exact fi
 refine ob b ?_
 cases q <;>
 ·exact fi
theorem SI {d v:Int} {j:Int} {s:List UInt8} {u A:Int} {B:List UInt8} {h:Int} {o:ak} {e:Bool} {r:ak} {w:List UInt8} {D:Int} {t:List UInt8} {i:Int} {C:ak} {L k c:Int} {l m:ak} {y:List UInt8} (a:dj o) (b:dj r) (f:dj C) (g:dj l) (G:dj m) {p q n z:Bool} (H:aF j 1=p) (K:aF 5 j=q) (M:aB j 2=n) (F:ae 103 [.dat (aN k c l m)] (bv z)) (V:ae 38 [.dat (aN k c l m),iv (an .i64 (d+1))] (iv v)) :
  ae 69 [.dat (B0 j s u A B h o e r w D t i C L k c l m y),iv d] (iv (sc p q n z v)):=by
 have I:=@adN j s u A B h _ e _ w D t i _ L k c _ _ y a b f g G;have E:=@QL false 2 j s u A B h o e r w D t i C L k c _ _ y g G;refine co [8,12,17,27] [2,29,20] (x:=.of Tryz.f69 P8 Qt) ?_;refine oo I (ob H ?_)
 cases p
 ·refine ob K ?_
  cases q
  ·refine ox M ?_
   cases n
   ·refine oo E (on F ?_)
    cases z
    ·exact fi
    exact ox M fi
   exact ox M (oo E (on V fi))
  exact fi
 exact fi
theorem gM.yH (L sl:Int) (e:Bool) (a:List Ins) (c:Bool) (b:List (List fG)) (d:Nat):gM.val (.mk L sl e a c b) d=C0 d L sl a b.length (kB b d):=by rw[gM.val]
theorem fG.yH (k:Int) (a:vh) (f:List UInt8) (e:Ty) (L:Int) (c:gM) (b:List UInt8) (d:Nat):fG.val (.mk k a f e L c b) d=sc (aF k 1) (aF 5 k) (aB k 2) c.zero (c.val (d+1)):=by rw[fG.val]
mutual
def gM.ok:gM->Prop
 | .mk _ _ _ a _ b=>(∀x∈a,x.gN)/\a.length < 1000000/\b.length < 1000000/\nj b
def nj:List (List fG)->Prop
 | []=>True
 | l::r=>l.length < 1000000/\Ss l/\nj r
def Ss:List fG->Prop
 | []=>True
 | e::r=>e.ok/\Ss r
def fG.ok:fG->Prop
 | .mk _ d _ s _ c _=>d.gN/\s.gN/\c.ok
end
theorem Al:∀{l:List (List fG)},nj l->∀x∈l,x.length < 1000000/\Ss x
 | [],_,x,b=>by grind
 | a::r,h,x,b=>by
  rcases List.mem_cons.1 b with rfl|b
  ·exact⟨h.1,h.2.1⟩
  exact Al h.2.2 x b
theorem NI {p sl d:Int} {f:List Ins} {j:Bool} {g:List ak} (z:∀x∈f,x.gN) (N:f.length < 1000000) :
  KD (.loop (roundOf Tryz.f38 0)) (fun e q=>(e=.exit 1/\f.all (fun x=>iJ (ofNat f.length) (ofNat g.length) sl x)=true/\∃i,q=(DJ (cC p sl (.slice (encI f)) (sx j g)) d (encI f) i).al cO)∨(e=.ret/\f.all (fun x=>iJ (ofNat f.length) (ofNat g.length) sl x)=false/\q=(pf 2).al cO))
   ((yZ (cC p sl (.slice (encI f)) (sx j g)) d (encI f) 0).al cO):=by
 have h:(encI f).length=f.length:=bH f;refine cV (St:=fun i=>(yZ (cC p sl (.slice (encI f)) (sx j g)) d (encI f) (ofNat i)).al cO) (fun i=>f.all (fun x=>iJ (ofNat f.length) (ofNat g.length) sl x)=(f.drop i).all (fun x=>iJ (ofNat f.length) (ofNat g.length) sl x)) f.length ?_ ?_ (i:=0) (Nat.zero_le _) rfl
 ·intro i k l;have J:f[i]?=some f[i]:=List.getElem?_eq_getElem k;have r:f[i]∈f:=List.getElem_mem k;have D:(f.drop i).all (fun x=>iJ (ofNat f.length) (ofNat g.length) sl x)=(iJ (ofNat f.length) (ofNat g.length) sl f[i]&&(f.drop (i+1)).all (fun x=>iJ (ofNat f.length) (ofNat g.length) sl x)):=by rw[List.drop_eq_getElem_cons k];rfl
  generalize f[i]=x at J D r;rw[←l] at D;have y:an .i64 (ofNat i+1)=ofNat (i+1):=bb (by omega);have V:=@ER p sl (encI f) g j _ (z x r);rw[h] at V;have o:=xn J;generalize iJ (ofNat f.length) (ofNat g.length) sl x=b at V D;obtain⟨F,v,a,B,m,n,s,u,⟨G,t,E,A⟩,C,I,c⟩:=x;refine aeo (dq j g) (dq s (u.map iN)) (dr (ax A)) (br (by rw[h];exact k)) o V ?_ ?_
  ·rintro rfl;rw[y];exact⟨rfl,D⟩
  rintro rfl;exact .inr ⟨rfl,D,rfl⟩
 intro l;have w:f.all (fun x=>iJ (ofNat f.length) (ofNat g.length) sl x)=true:=by rw[l,List.drop_length];rfl
 exact aaj (cj (by rw[h];omega)) (.inl ⟨rfl,w,_,rfl⟩)
theorem Hi {l:List fG} {k:Nat} {e:fG} {d:Nat} (h:l[k]?=some e):uP (l.drop k) d=if aB (e.val d) 0=true then uP (l.drop (k+1)) d else e.val d:=by
 have a:=(List.getElem?_eq_some_iff.1 h).1;rw[List.drop_eq_getElem_cons a]
 grind[uP]
theorem Db {l:List (List fG)} {k:Nat} {e:List fG} {d:Nat} (h:l[k]?=some e):kB (l.drop k) d=if aB (uP e d) 0=true then kB (l.drop (k+1)) d else uP e d:=by
 have a:=(List.getElem?_eq_some_iff.1 h).1;rw[List.drop_eq_getElem_cons a]
 grind[kB]
theorem NJ {d:Nat} {n:Int} {S:ak} {i:Int} {l:List fG} (N:l.length < 1000000) (V:∀e∈l,ae 69 [.dat e.enc,iv (ofNat d)] (iv (e.val d))) :
  KD (.loop (roundOf Tryz.f38 2)) (fun e q=>(e=.exit 5/\aB (uP l d) 0=true/\∃k,q=(Ie (ofNat d) n S i (ir l) k).al cO)∨(e=.ret/\aB (uP l d) 0=false/\q=(pf (uP l d)).al cO))
   ((Ck (ofNat d) n S i (ir l) 0).al cO):=by
 have f:(ir l).length=l.length:=xB l;refine cV (St:=fun k=>(Ck (ofNat d) n S i (ir l) (ofNat k)).al cO) (fun k=>uP l d=uP (l.drop k) d) l.length ?_ ?_ (i:=0) (Nat.zero_le _) rfl
 ·intro k w b;have J:l[k]?=some l[k]:=List.getElem?_eq_getElem w;have F:l[k]∈l:=List.getElem_mem w;generalize l[k]=e at J F;rw[Hi J] at b;have j:=V e F;have r:=VS J;have Q:an .i64 (ofNat k+1)=ofNat (k+1):=bb (by omega);generalize e.val d=v at j b;obtain⟨B,⟨A,u,⟨K,M,o,I⟩,g,D⟩,E,⟨P,t,p,O⟩,L,⟨z,c,G,m,C,y⟩,H⟩:=e;have s:ap ba _ [.dat (.slice (ir l)),.dat (.flat (.int .i64 (ofNat k)))]=some ⟨.ref [i64 B,sb A,i64 u,i64 K,sb M,i64 o,sl (ax I),bl g,sl (BZ D),sb E,i64 P,sb t,i64 p,sl (ax O),i64 L,i64 z,i64 c,sx G (encI m),sx C (aG y),sb H],.keep⟩:=r;have x:ae 69 [.dat (B0 B A u K M o (sl (ax I)) g (sl (BZ D)) E P t p (sl (ax O)) L z c (sx G (encI m)) (sx C (aG y)) H),iv (ofNat d)] (iv v):=j;refine aep (dr _) (dr _) (dr _) (dq _ _) (dq _ _) (br (by grind)) s x rfl ?_ ?_
  ·intro h;rw[Q];refine⟨rfl,?_⟩;grind
  intro h;rw[h] at b
  have:uP l d=v:=b
  rw[this];exact .inr ⟨rfl,h,rfl⟩
 intro b;rw[List.drop_length] at b;have a:aB (uP l d) 0=true:=by rw[b,uP];rfl
 exact aak (cj (by omega)) (.inl ⟨rfl,a,_,rfl⟩)
theorem NK {d:Nat} {b:List (List fG)} (N:b.length < 1000000) (n:∀l∈b,l.length < 1000000) (V:∀l∈b,∀e∈l,ae 69 [.dat e.enc,iv (ofNat d)] (iv (e.val d))) :
  KD (.loop (roundOf Tryz.f38 1)) (fun e q=>(e=.exit 3/\aB (kB b d) 0=true/\∃i,q=(vp (ofNat d) (ofNat (aG b).length) (.slice (aG b)) i).al cO)∨(e=.ret/\aB (kB b d) 0=false/\q=(pf (kB b d)).al cO))
   ((rQ (ofNat d) (ofNat (aG b).length) (.slice (aG b)) 0).al cO):=by
 have c:(aG b).length=b.length:=dJ b;refine cV (St:=fun k=>(rQ (ofNat d) (ofNat (aG b).length) (.slice (aG b)) (ofNat k)).al cO) (fun k=>kB b d=kB (b.drop k) d) b.length ?_ ?_ (i:=0) (Nat.zero_le _) rfl
 ·intro k g f;have J:b[k]?=some b[k]:=List.getElem?_eq_getElem g;have j:b[k]∈b:=List.getElem_mem g;generalize b[k]=l at J j;rw[Db J] at f;have o:an .i64 (ofNat k+1)=ofNat (k+1):=bb (by omega);have m:=@NJ d (ofNat (aG b).length) (.slice (aG b)) (ofNat k) _ (n l j) (V l j);refine aeq (br (by grind)) (VT J) m ?_ ?_
  ·intro h;rw[o];refine⟨rfl,?_⟩;grind
  intro h;rw[h] at f
  have:kB b d=uP l d:=f
  rw[this];exact .inr ⟨rfl,h,rfl⟩
 intro f;rw[List.drop_length] at f;have a:aB (kB b d) 0=true:=by rw[f,kB];rfl
 exact Ve (cj (by omega)) (.inl ⟨rfl,a,_,rfl⟩)
theorem L1 {d n:Int} {S:ak} (h:aF 0 n=false) :
  KD (.loop (roundOf Tryz.f38 1)) (fun e q=>e=.exit 3/\∃i,q=(vp d n S i).al cO) ((rQ d n S 0).al cO):=by
 refine bm (St:=fun _=>(rQ d n S 0).al cO) 0 (fun i a=>absurd a (by omega)) ?_ (i:=0) (Nat.le_refl _);exact Ve h ⟨rfl,_,rfl⟩
theorem J0 (c:gM):ae 103 [.dat c.enc] (bv c.zero):=by
 obtain⟨L,sl,g,d,f,e⟩:=c;have i:ofNat (encI d).length=ofNat d.length:=by rw[bH]
 have j:ofNat (aG e).length=ofNat e.length:=by rw[dJ]
 have m:=fun (l k:List ak)=>@aab L sl l k _ _ _ _ rfl rfl rfl rfl
 have h:∀(a b:ak),(a=.slice (encI d)∨(a=nl/\d=[]))->(b=.slice (aG e)∨(b=nl/\e=[]))->ae 103 [.dat (aN L sl a b)] (bv (gM.zero (.mk L sl g d f e))):=by
  rintro a b (rfl|⟨rfl,rfl⟩) (rfl|⟨rfl,rfl⟩)
  ·have:=m (encI d) (aG e)
   rw[i,j] at this;exact this
  ·have:=@aac L sl (encI d) [] _ _ _ true rfl rfl rfl
   rw[i] at this;exact this
  ·have:=@aad L sl [] (aG e) _ _ true _ rfl rfl rfl
   rw[j] at this;exact this
  exact @aae L sl [] [] _ _ true true rfl rfl
 refine h (sx g (encI d)) (sx f (aG e)) ?_ ?_
 ·cases d with
  | nil=>cases g <;> grind[encI,sx]
  | cons x r=>grind[encI,sx]
 cases e with
 | nil=>cases f <;> grind[aG,sx]
 | cons x r=>grind[aG,sx]
theorem jG (z:Bool) (l:List ak):sx z l=.slice l∨(sx z l=nl/\l=[]):=by
 cases l with
 | nil=>cases z with
  | true=>exact .inl rfl
  | false=>exact .inr ⟨rfl,rfl⟩
 | cons x r=>exact .inl rfl
theorem Gy {d:Nat} (h:aF 40 (ofNat d)=false):d<=40:=by
 rw[dA] at h;grind
theorem EQ {L sl:Int} {O o:Bool} {f:List Ins} {g:List (List fG)} {d:Nat} (hx:∀x∈f,x.gN) (N:f.length < 1000000) (U:g.length < 1000000) (hl:∀l∈g,l.length < 1000000)
  (V:d<=40->∀l∈g,∀e∈l,ae 69 [.dat e.enc,iv (ofNat d)] (iv (e.val d))) :
  ae 38 [.dat (gM.enc (.mk L sl O f o g)),iv (ofNat d)] (iv (gM.val (.mk L sl O f o g) d)):=by
 have k:ofNat (encI f).length=ofNat f.length:=by rw[bH]
 have b:ofNat (aG g).length=ofNat g.length:=by rw[dJ]
 have e0:gM.enc (.mk L sl O f o g)=aN L sl (sx O (encI f)) (sx o (aG g)):=rfl;rw[e0,gM.yH]
 rcases jG O (encI f) with S|⟨S,T⟩
 ·rw[S];have j:=@NI L sl (ofNat d) _ o (aG g) hx N;rw[b] at j;have H:∀P:Bool,aB (ofNat f.length) 0=P->∃(op:Int) (lc:List ak),(P=false->ap ba 23 [.dat (.slice (encI f)),.dat (.flat (.int .i64 (an .i64 (ofNat (encI f).length - 1))))]=some ⟨.ref (i64 op::lc),.keep⟩)/\oC f=(lU (eO op)).fin:=by
   intro P D
   cases P
   ·have w:0 < f.length:=by
     rcases Nat.eq_zero_or_pos f.length with h|h
     ·rw[h] at D;simp[cN] at D
     exact h
    have J:f[f.length - 1]?=some f[f.length - 1]:=List.getElem?_eq_getElem (by omega);have hw:an .i64 (ofNat (encI f).length - 1)=ofNat (f.length - 1):=by
     rw[k,cQ,show ofNat f.length - 1=ofNat (f.length - 1) by simp;omega];exact wrap_i64 (by show _<=((f.length - 1:Nat):Int);omega) (by show ((f.length - 1:Nat):Int)<=_;omega)
    have Z:oC f=(lU (eO f[f.length - 1].op)).fin:=by unfold oC;rw[J]
    generalize f[f.length - 1]=x at J Z;have G:=xn J;rw[←hw] at G;obtain⟨op,ad,a,b',m,n,az,u,⟨xk,t,ix,la⟩,C,I,c⟩:=x;exact⟨op,_,fun _=>G,Z⟩
   have:f=[]:=by
    cases f with
    | nil=>rfl
    | cons a r=>exact absurd D (by simp[cN];omega)
   subst this;exact⟨0,[],fun h=>by simp at h,rfl⟩
  obtain⟨op,lc,M,y⟩:=H _ rfl;have s:∀Y:Bool,f.all (fun x=>iJ (ofNat f.length) (ofNat g.length) sl x)=Y->(Y=true->ae 68 [.dat (aN L sl (.slice (encI f)) (sx o (aG g)))] (bv (lO f))):=by
   intro Y k b;rw[b] at k;exact ZT (dq o (aG g)) (Gk k) N
  have hz:∀v:Int,(if aB v 0=true then (0:Int) else v)=v:=by
   intro v
   split
   ·rename_i h;rw[cN] at h;simpa using (beq_iff_eq.1 h).symm
   rfl
  rcases jG o (aG g) with z|⟨z,A⟩
  ·rw[z] at j s ⊢;have W:=fun D:aF 40 (ofNat d)=false=>NK (d:=d) U hl (V (Gy D))
   have:=aaf (p:=L) (sl:=sl) (d:=ofNat d) (es:=encI f) (dd:=aG g) rfl rfl rfl rfl rfl (by rw[k]) (by rw[b]) (by rw[k]) (fun _=>j) M (uT op) (s _ rfl) W
   rw[hz,←y] at this;exact this
  rw[z] at j s ⊢;have B:g=[]:=by
   cases g with
   | nil=>rfl
   | cons a r=>simp[aG] at A
  subst B;have W:=@L1 (ofNat d) 0 nl rfl;have R:KD (.loop (roundOf Tryz.f38 1)) (fun e q=>(e=.exit 3/\true=true/\∃i,q=(vp (ofNat d) 0 nl i).al cO)∨(e=.ret/\true=false/\q=(pf 0).al cO)) ((rQ (ofNat d) 0 nl 0).al cO):=W.mono (by rintro e q ⟨k,b⟩;exact .inl ⟨k,rfl,b⟩)
  have:=@aag L sl (ofNat d) (encI f) [] _ _ _ true _ _ _ _ _ _ _ _ _ _ rfl rfl rfl rfl rfl (by rw[k]) (by rw[k]) (fun _=>j) _ _ M (uT op) (s _ rfl) (fun _=>R)
  rw[←y] at this;exact this
 rw[S];have K:f=[]:=by
  cases f with
  | nil=>rfl
  | cons a r=>simp[encI] at T
 subst K;have hh:∀Q:Bool,aF 2000 (ofNat g.length)=Q->C0 d L sl [] g.length (kB g d)=nt (aF 40 (ofNat d)) (aF 200 sl) false Q (aF L 0) (aF 6 L) (aF sl L) true false false false 0:=by
  intro Q h;subst h;unfold C0 nt;have E:aB (ofNat ([]:List Ins).length) 0=true:=rfl;have F:aF 2000 (ofNat ([]:List Ins).length)=false:=rfl;rw[E,F];simp only[Bool.or_true,if_true]
 rw[hh _ rfl]
 rcases jG o (aG g) with z|⟨z,A⟩
 ·rw[z]
  have:=@aah L sl (ofNat d) [] (aG g) _ _ true _ _ _ _ true true true true true 0 kG.zero rfl rfl rfl rfl rfl rfl
  rw[b] at this;exact this
 rw[z];have B:g=[]:=by
  cases g with
  | nil=>rfl
  | cons a r=>simp[aG] at A
 subst B;exact @aai L sl (ofNat d) [] [] _ _ true true _ _ _ true true true true true 0 kG.zero rfl rfl rfl rfl rfl
mutual
theorem oW:∀(c:gM) (d:Nat),c.ok->d<=41->ae 38 [.dat c.enc,iv (ofNat d)] (iv (c.val d))
 | .mk L sl A k w m,d,h,D=>by
  obtain⟨G,b,f,g⟩:=h;exact EQ G b f (fun l H=>(Al g l H).1) (fun p=>Hy m d g p)
theorem Hy:∀(l:List (List fG)) (d:Nat),nj l->d<=40->∀x∈l,∀e∈x,ae 69 [.dat e.enc,iv (ofNat d)] (iv (e.val d))
 | [],_,_,_,x,j,_,_=>by grind
 | a::r,d,h,D,x,j,e,i=>by
  rcases List.mem_cons.1 j with j|j
  ·rw[j] at i;exact LU a d h.2.1 D e i
  exact Hy r d h.2.2 D x j e i
theorem LU:∀(l:List fG) (d:Nat),Ss l->d<=40->∀e∈l,ae 69 [.dat e.enc,iv (ofNat d)] (iv (e.val d))
 | [],_,_,_,e,i=>by grind
 | a::r,d,h,D,e,i=>by
  rcases List.mem_cons.1 i with i|i
  ·rw[i];exact Hw a d h.1 D
  exact LU r d h.2 D e i
theorem Hw:∀(e:fG) (d:Nat),e.ok->d<=40->ae 69 [.dat e.enc,iv (ofNat d)] (iv (e.val d))
 | .mk C ⟨B,u,⟨M,N,q,K⟩,n,E⟩ F ⟨P,t,s,O⟩ L c J,d,h,D=>by
  have I:an .i64 (ofNat d+1)=ofNat (d+1):=bb (by omega);have o:=oW c (d+1) h.2.2 (by omega);have y:=J0 c;rw[←I] at o;rw[fG.yH];generalize c.val (d+1)=v at o;generalize c.zero=z at y;obtain⟨Q,R,A,k,w,m⟩:=c
  have:=@SI (ofNat d) _ C B u M N q _ n _ F P t s _ L _ _ _ _ J (dr (ax K)) (dr (BZ E)) (dr (ax O)) (dq A (encI k)) (dq w (aG m)) _ _ _ _ rfl rfl rfl y o
  exact this
end
def agB (i:Nat) (x:Ins):List UInt8:=Go.Lib.itoa (ofNat i)++[32]++x.txt++[10]
def abF:Nat->List Ins->List UInt8
 | _,[]=>[]
 | i,x::r=>agB i x++abF (i+1) r
def aeg (L sl:Int):List UInt8:=[99,111,100,101,32]++Go.Lib.itoa L++[32]++Go.Lib.itoa sl++[10]
theorem agA (x:Ins):∀(l:List Ins) (k:Nat),abF k (l++[x])=abF k l++agB (k+l.length) x
 | [],k=>by simp[abF]
 | y::r,k=>by
  show agB k y++abF (k+1) (r++[x])=agB k y++abF (k+1) r++_;rw[agA x r (k+1),List.length_cons,List.append_assoc,show k+1+r.length=k+(r.length+1) by omega]
theorem agi {l:List Ins} {i:Nat} {x:Ins} (h:l[i]?=some x):abF 0 (l.take (i+1))=abF 0 (l.take i)++agB i x:=by
 have a:i < l.length:=by
  grind
 rw[List.take_add_one,h];grind[agA]
theorem ags {x:Ins} (h:PrI x):x.txt.length<=150015:=by
 have b:=af9 (ahR h (aln x.op));have a:=ak3 x (lU (eO x.op)) h.arl
 show (aft (x.wds (lU (eO x.op)))).length<=_;omega
theorem ajI {i:Nat} {x:Ins} (c:i < 1000000) (h:PrI x):(agB i x).length<=150100:=by
 have a:=ab8 (n:=ofNat i) ⟨by grind,by grind⟩;have b:=ags h;simp only[agB,List.length_append,List.length_singleton];omega
theorem afF:∀{l:List Ins} {k:Nat},(∀x∈l,PrI x)->k+l.length<=1000000->(abF k l).length<=l.length*150100
 | [],_,_,_=>by simp[abF]
 | x::r,k,h,c=>by
  rw[List.length_cons] at c;have a:=ajI (i:=k) (by omega) (h x (by simp));have b:=afF (l:=r) (k:=k+1) (fun y d=>h y (List.mem_cons_of_mem _ d)) (by omega);grind[abF]
theorem agT {L sl:Int} (a:smI L) (b:smI sl):(aeg L sl).length<=100:=by
 have:=ab8 a
 have:=ab8 b
 simp only[aeg,List.length_append,List.length_cons,List.length_nil];omega
theorem ag1 {i:Nat} (h:i<=1000000):smI (ofNat i):=⟨by grind,by grind⟩
noncomputable def hCF:Hints:=⟨bV,ahu,bi,rowsOf bi 18⟩
def aiU (p:List ac) (s:List UInt8) (i:Int):ab:=⟨[(4,iv i),(3,.dat (sb s)),(1,.ptr (.loc 1) 0)],[(.loc 1,.cells p)],[],0⟩
def aiT (p:List ac) (s:List UInt8) (i:Int):ab:=⟨[(22,bv false),(4,iv i),(3,.dat (sb s)),(1,.ptr (.loc 1) 0)],[(.loc 1,.cells p)],[],0⟩
section
theorem aj5 {p sl:Int} {f:List ak} {o:ak} {g d a b m:Int} {n:List UInt8} {h:ak} {k:Int} {t:List UInt8} {x:Int} {y:ak} {C I:Int} {c s e w:List UInt8} {i:Nat} {T:ej} (j:dj h) (l:dj y) (q:aF (ofNat i) (ofNat f.length)=true) (r:ap ba 23 [.dat (.slice f),.dat (.flat (.int .i64 (ofNat i)))]=some ⟨.ref [i64 g,i64 d,i64 a,i64 b,i64 m,sb n,h,i64 k,sb t,i64 x,y,i64 C,i64 I,sb c,nl],.keep⟩)
  (N:ae 45 [iv (ofNat i)] (.dat (sb e))) (u:ae 46 [.dat (eH g d a b m n h k t x y C I c)] (.dat (sb w)))
  (v:Ny ba .add 9 [.dat (sb e),.dat (sb [32])]=some ⟨.dat (sb (e++[32])),.keep⟩) (K:Ny ba .add 9 [.dat (sb (e++[32])),.dat (sb w)]=some ⟨.dat (sb (e++[32]++w)),.keep⟩)
  (M:Ny ba .add 9 [.dat (sb (e++[32]++w)),.dat (sb [10])]=some ⟨.dat (sb (e++[32]++w++[10])),.keep⟩) (z:Ny ba .add 9 [.dat (sb s),.dat (sb (e++[32]++w++[10]))]=some ⟨.dat (sb (s++(e++[32]++w++[10]))),.keep⟩)
  (E:T .normal ((aiU (cC p sl (.slice f) o) (s++(e++[32]++w++[10])) (an .i64 (ofNat i+1))).al agf)) :
  KD (roundOf Tryz.f18 0) T ((aiU (cC p sl (.slice f) o) s (ofNat i)).al agf):=by
 have A:=@yv true g d a b m n _ k t x _ C I c j l;exact aq [22] [32,33,28,35,36,37] (H:=hCF) (live:=agz) (ob q (oo r (oo A (on N (oo v (on u (oo K (oo M (oo z (oe E))))))))))
theorem akX {p sl:Int} {b:List ak} {c:ak} {s:List UInt8} {T:ej} (e:T (.exit 0) ((aiT (cC p sl (.slice b) c) s (ofNat b.length)).al agf)) :
  KD (roundOf Tryz.f18 0) T ((aiU (cC p sl (.slice b) c) s (ofNat b.length)).al agf):=by
 have a:=cj (i:=b.length) (L:=b.length) (by omega);exact aq [22] [] (H:=hCF) (live:=agz) (ob a (oe e))
theorem an8 {p sl:Int} {b:ak} {v:Int} {a:ak} (c:dj a) (d:dj b) (o:ae 14 [.dat (aN p sl a b)] (iv v)) (h:aB v 0=false):ae 18 [.dat (aN p sl a b)] (.dat (sb [])):=by
 have e:=aS (p:=p) (s:=sl) c d;have f:=aO false 1 (p:=p) (s:=sl) c d;refine co [7] [1,5] (x:=.of Tryz.f18 ahu agz) ?_;exact oo e (oo f (on o (ox h fi)))
theorem amB {p sl:Int} {a:List ak} {b:ak} (c:dj b) {E F r:List UInt8} (o:ae 14 [.dat (aN p sl (.slice a) b)] (iv 0)) (w:ae 45 [iv p] (.dat (sb E))) (d:ae 45 [iv sl] (.dat (sb F)))
  (f:Ny ba .add 9 [.dat (sb [99,111,100,101,32]),.dat (sb E)]=some ⟨.dat (sb ([99,111,100,101,32]++E)),.keep⟩) (K:Ny ba .add 9 [.dat (sb ([99,111,100,101,32]++E)),.dat (sb [32])]=some ⟨.dat (sb ([99,111,100,101,32]++E++[32])),.keep⟩)
  (M:Ny ba .add 9 [.dat (sb ([99,111,100,101,32]++E++[32])),.dat (sb F)]=some ⟨.dat (sb ([99,111,100,101,32]++E++[32]++F)),.keep⟩) (g:Ny ba .add 9 [.dat (sb ([99,111,100,101,32]++E++[32]++F)),.dat (sb [10])]=some ⟨.dat (sb ([99,111,100,101,32]++E++[32]++F++[10])),.keep⟩)
  (l:KD (.loop (roundOf Tryz.f18 0)) (fun e q=>e=.exit 0/\q=(aiT (cC p sl (.slice a) b) r (ofNat a.length)).al agf) ((aiU (cC p sl (.slice a) b) ([99,111,100,101,32]++E++[32]++F++[10]) (ofNat 0)).al agf)) :
  ae 18 [.dat (aN p sl (.slice a) b)] (.dat (sb r)):=by
 have h:=@aS p sl (.slice a) _ (.inr ⟨_,rfl⟩) c;have i:=@aO false 1 p sl (.slice a) _ (.inr ⟨_,rfl⟩) c;refine co [] [1,5,11,12,16,17] (x:=.of Tryz.f18 ahu agz) ?_;refine oo h (oo i (on o (on w (oo f (oo K (on d (oo M (oo g ?_))))))));refine lo l ?_;rintro j s ⟨rfl,rfl⟩;refine⟨_,rfl,?_⟩;exact fi
noncomputable def hFo:Hints:=⟨bV,VL,bi,rowsOf bi 17⟩
def aiO (l:List ak) (c:List UInt8) (i:Int):ab:=⟨[(23,iv i),(22,iv (ofNat l.length)),(21,.dat (.slice l)),(3,pB 0)],[],hBx 0 (some c),1⟩
def aiN (l:List ak) (c:List UInt8) (i:Int):ab:=⟨[(24,bv false),(23,iv i),(22,iv (ofNat l.length)),(21,.dat (.slice l)),(3,pB 0)],[],hBx 0 (some c),1⟩
theorem ajV {j:List ak} {f d a b m:Int} {n:List UInt8} {l:ak} {k:Int} {t:List UInt8} {x:Int} {y:ak} {C I:Int} {c s e w:List UInt8} {i:Nat} {T:ej} (g:dj l) (h:dj y) (o:aF (ofNat i) (ofNat j.length)=true) (p:ap ba 23 [.dat (.slice j),.dat (.flat (.int .i64 (ofNat i)))]=some ⟨.ref [i64 f,i64 d,i64 a,i64 b,i64 m,sb n,l,i64 k,sb t,i64 x,y,i64 C,i64 I,sb c,nl],.keep⟩)
  (N:ae 42 [iv (ofNat i)] (.dat (sb e))) (r:ae 43 [.dat (eH f d a b m n l k t x y C I c)] (.dat (sb w)))
  (u:Ny ba .add 9 [.dat (sb e),.dat (sb [32])]=some ⟨.dat (sb (e++[32])),.keep⟩) (K:Ny ba .add 9 [.dat (sb (e++[32])),.dat (sb w)]=some ⟨.dat (sb (e++[32]++w)),.keep⟩)
  (M:Ny ba .add 9 [.dat (sb (e++[32]++w)),.dat (sb [10])]=some ⟨.dat (sb (e++[32]++w++[10])),.keep⟩)
  (q:KC 41 [pB 0,.dat (sb (e++[32]++w++[10]))] (hBx 0 (some s)) 1 (XQ ⟨.tup [iv (ofNat (e++[32]++w++[10]).length),agw],hBx 0 (some (s++(e++[32]++w++[10]))),1⟩))
  (E:T .normal ((aiO j (s++(e++[32]++w++[10])) (an .i64 (ofNat i+1))).al agh)) :
  KD (roundOf Tryz.f17 0) T ((aiO j s (ofNat i)).al agh):=by
 have v:=@yv true f d a b m n _ k t x _ C I c g h;have z:=@Ic 5 f d a b m n _ k t x _ C I c g h;have A:=@QJ true 5 f d a b m n _ k t x _ C I c g h;exact aq [24] [26,27,100005,31,30,33,34] (H:=hFo) (live:=XU) (ob o (oo p (oo v (oo z (oo A (on N (oo u (on r (oo K (oo M (oh q (oe E))))))))))))
theorem akL {b:List ak} {s:List UInt8} {T:ej} (e:T (.exit 0) ((aiN b s (ofNat b.length)).al agh)) :
  KD (roundOf Tryz.f17 0) T ((aiO b s (ofNat b.length)).al agh):=by
 have a:=cj (i:=b.length) (L:=b.length) (by omega);exact aq [24] [] (H:=hFo) (live:=XU) (ob a (oe e))
theorem an4 {p sl:Int} {b:ak} {v:Int} {a:ak} (c:dj a) (d:dj b) (o:ae 13 [.dat (aN p sl a b)] (iv v)) (h:aB v 0=false):ae 17 [.dat (aN p sl a b)] (.dat (sb [])):=by
 have e:=aS (p:=p) (s:=sl) c d;have f:=aO false 1 (p:=p) (s:=sl) c d;refine co [8] [1,6] (x:=.of Tryz.f17 VL XU) ?_;exact oo e (oo f (on o (ox h fi)))
theorem amp {p sl:Int} {a:List ak} {b:ak} (c:dj b) {E F r:List UInt8} (o:ae 13 [.dat (aN p sl (.slice a) b)] (iv 0)) (w:ae 42 [iv p] (.dat (sb E))) (f:ae 42 [iv sl] (.dat (sb F)))
  (g:Ny ba .add 9 [.dat (sb [99,111,100,101,32]),.dat (sb E)]=some ⟨.dat (sb ([99,111,100,101,32]++E)),.keep⟩) (K:Ny ba .add 9 [.dat (sb ([99,111,100,101,32]++E)),.dat (sb [32])]=some ⟨.dat (sb ([99,111,100,101,32]++E++[32])),.keep⟩)
  (M:Ny ba .add 9 [.dat (sb ([99,111,100,101,32]++E++[32])),.dat (sb F)]=some ⟨.dat (sb ([99,111,100,101,32]++E++[32]++F)),.keep⟩) (h:Ny ba .add 9 [.dat (sb ([99,111,100,101,32]++E++[32]++F)),.dat (sb [10])]=some ⟨.dat (sb ([99,111,100,101,32]++E++[32]++F++[10])),.keep⟩)
  (d:KC 41 [pB 0,.dat (sb ([99,111,100,101,32]++E++[32]++F++[10]))] (hBx 0 none) 1 (XQ ⟨.tup [iv (ofNat ([99,111,100,101,32]++E++[32]++F++[10]).length),agw],hBx 0 (some ([99,111,100,101,32]++E++[32]++F++[10])),1⟩))
  (l:KD (.loop (roundOf Tryz.f17 0)) (fun e q=>e=.exit 0/\q=(aiN a r (ofNat a.length)).al agh) ((aiO a ([99,111,100,101,32]++E++[32]++F++[10]) (ofNat 0)).al agh))
  (hS:KC 44 [pB 0] (hBx 0 (some r)) 1 (XQ ⟨.dat (sb r),[(.out 0,.cells [.ptr (.out 0) 0,.dat (.slice (oX r))])],1⟩)) :
  ae 17 [.dat (aN p sl (.slice a) b)] (.dat (sb r)):=by
 have i:=@aS p sl (.slice a) _ (.inr ⟨_,rfl⟩) c;have j:=@aO false 1 p sl (.slice a) _ (.inr ⟨_,rfl⟩) c;clear c;refine co [] [1,6,12,13,17,18] (x:=.of Tryz.f17 VL XU) ?_;refine oo i (oo j (on o (on w (oo g (oo K (on f (oo M (oo h (oh d ?_)))))))));refine lo l ?_;rintro k s ⟨rfl,rfl⟩;refine⟨_,rfl,?_⟩;exact oh hS fi
end
end Go.Proofs.YtmpmgmmcaghacaaGreatDoor
