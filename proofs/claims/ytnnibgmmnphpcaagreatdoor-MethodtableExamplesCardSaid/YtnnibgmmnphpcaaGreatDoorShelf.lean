/-
  DERIVED: THE SHELF's CONTRACTS AT THIS DUMP, IN PLAIN WORDS (tools/lay-plain.mjs out of 'TryzShelfK.lean', which tools/lay-shelf.mjs wrote): THE SAME DECLARATIONS UNDER THE SAME NAMES: 'import', 'namespace', 'open', 'def', 'theorem' AND NOTHING ELSE: no command of the shelf's: FOR A HAND-IN. Each laying: the table of numbers ('.._ren') and one theorem, a field a fact of the dump's own or the kernel's comparison; each contract: ONE APPLICATION.
-/
import Derived.Shelf.SlGeneric
import Derived.Ground.SlgnProg
import Derived.Ground.GgzProg
import Derived.Ground.SlgmProg
import Derived.Shelf.SlIter.Nil
import Derived.Shelf.SortM.Plain
import Derived.Shelf.SortM.SortNone
import Derived.Ground.SlmcProg
import Derived.Shelf.SlLaysE0
import Derived.Shelf.SlLaysW
import Derived.Shelf.SlMaps.Clone
import Derived.Shelf.SlicesE.Clone
import Derived.Shelf.SlicesE.Delete
import Derived.Test.YtnnibgmmnphpcaaGreatDoorProg
namespace Go.Proofs
open Go.Shelf
def Tryz.clone34_ren : Go.Shelf.Ren := ⟨fun | 41 => 34 | n => n, fun | 22 => 48 | 23 => 51 | 4 => 4 | n => n, fun | n => n⟩
theorem Tryz.clone34 : Go.Proofs.SlLaysE0.n41 Tryz.prog Tryz.clone34_ren := {
  mixed := by kernel_rfl
  f41 := ⟨Tryz.f34.name, by decide, Tryz.func34.trans (congrArg some (by kernel_rfl))⟩
  t4 := Tryz.underlying4
  a4 := Tryz.isAgg4
  z4 := Tryz.sizeOf4
  v4 := Tryz.zeroValue4
  t22 := Tryz.underlying48
  a22 := Tryz.isAgg48
  z22 := Tryz.sizeOf48
  v22 := Tryz.zeroValue48 }
def Tryz.mclone35_ren : Go.Shelf.Ren := ⟨fun | 5 => 35 | 7 => 56 | n => n, fun | 23 => 57 | 25 => 9 | 3 => 4 | 4 => 4 | 20 => 20 | n => n, fun | n => n⟩
theorem Tryz.mclone35 : Go.Proofs.SlLaysW.n5 Tryz.prog Tryz.mclone35_ren := {
  mixed := by kernel_rfl
  f5 := ⟨Tryz.f35.name, by decide, Tryz.func35.trans (congrArg some (by kernel_rfl))⟩
  f7 := Tryz.func56.trans (congrArg some (by kernel_rfl))
  t4 := Tryz.underlying4
  a4 := Tryz.isAgg4
  z4 := Tryz.sizeOf4
  v4 := Tryz.zeroValue4
  t20 := Tryz.underlying20
  a20 := Tryz.isAgg20
  z20 := Tryz.sizeOf20
  v20 := Tryz.zeroValue20
  t23 := Tryz.underlying57
  a23 := Tryz.isAgg57
  z23 := Tryz.sizeOf57
  v23 := Tryz.zeroValue57 }
def Tryz.mclone55_ren : Go.Shelf.Ren := ⟨fun | 5 => 55 | 7 => 56 | n => n, fun | 23 => 79 | 25 => 9 | 3 => 3 | 4 => 4 | 20 => 20 | n => n, fun | n => n⟩
theorem Tryz.mclone55 : Go.Proofs.SlLaysW.n5 Tryz.prog Tryz.mclone55_ren := {
  mixed := by kernel_rfl
  f5 := ⟨Tryz.f55.name, by decide, Tryz.func55.trans (congrArg some (by kernel_rfl))⟩
  f7 := Tryz.func56.trans (congrArg some (by kernel_rfl))
  t4 := Tryz.underlying4
  a4 := Tryz.isAgg4
  z4 := Tryz.sizeOf4
  v4 := Tryz.zeroValue4
  t20 := Tryz.underlying20
  a20 := Tryz.isAgg20
  z20 := Tryz.sizeOf20
  v20 := Tryz.zeroValue20
  t23 := Tryz.underlying79
  a23 := Tryz.isAgg79
  z23 := Tryz.sizeOf79
  v23 := Tryz.zeroValue79 }
def Tryz.del135_ren : Go.Shelf.Ren := ⟨fun | 45 => 135 | n => n, fun | 22 => 142 | 23 => 149 | 3 => 3 | 4 => 4 | 0 => 0 | n => n, fun | n => n⟩
theorem Tryz.del135 : Go.Proofs.SlLaysE0.n45 Tryz.prog Tryz.del135_ren := {
  mixed := by kernel_rfl
  f45 := ⟨Tryz.f135.name, by decide, Tryz.func135.trans (congrArg some (by kernel_rfl))⟩
  t0 := Tryz.underlying0
  a0 := Tryz.isAgg0
  z0 := Tryz.sizeOf0
  v0 := Tryz.zeroValue0
  t3 := Tryz.underlying3
  a3 := Tryz.isAgg3
  z3 := Tryz.sizeOf3
  v3 := Tryz.zeroValue3
  t4 := Tryz.underlying4
  a4 := Tryz.isAgg4
  z4 := Tryz.sizeOf4
  v4 := Tryz.zeroValue4
  t22 := Tryz.underlying142
  a22 := Tryz.isAgg142
  z22 := Tryz.sizeOf142
  v22 := Tryz.zeroValue142 }
def Tryz.keys26_ren : Go.Shelf.Ren := ⟨fun | 7 => 26 | 10 => 51 | n => n, fun | 23 => 57 | 26 => 9 | 3 => 4 | 28 => 77 | 0 => 0 | 27 => 76 | 33 => 108 | 4 => 4 | n => n, fun | n => n⟩
theorem Tryz.keys26 : Go.Proofs.SlLaysZ.n7 Tryz.prog Tryz.keys26_ren := {
  mixed := by kernel_rfl
  f7 := ⟨Tryz.f26.name, by decide, Tryz.func26.trans (congrArg some (by kernel_rfl))⟩
  f10 := ⟨Tryz.f51.name, by decide, Tryz.func51.trans (congrArg some (by kernel_rfl))⟩
  t0 := Tryz.underlying0
  a0 := Tryz.isAgg0
  z0 := Tryz.sizeOf0
  v0 := Tryz.zeroValue0
  t4 := Tryz.underlying4
  a4 := Tryz.isAgg4
  z4 := Tryz.sizeOf4
  v4 := Tryz.zeroValue4
  t23 := Tryz.underlying57
  a23 := Tryz.isAgg57
  z23 := Tryz.sizeOf57
  v23 := Tryz.zeroValue57
  t26 := Tryz.underlying9
  a26 := Tryz.isAgg9
  z26 := Tryz.sizeOf9
  v26 := Tryz.zeroValue9
  t27 := Tryz.underlying76
  a27 := Tryz.isAgg76
  z27 := Tryz.sizeOf76
  v27 := Tryz.zeroValue76
  t28 := Tryz.underlying77
  a28 := Tryz.isAgg77
  z28 := Tryz.sizeOf77
  v28 := Tryz.zeroValue77
  t33 := Tryz.underlying108
  a33 := Tryz.isAgg108
  z33 := Tryz.sizeOf108
  v33 := Tryz.zeroValue108 }
def Tryz.sorted25_ren : Go.Shelf.Ren := ⟨fun | 6 => 25 | 8 => 49 | 9 => 50 | 11 => 76 | 13 => 78 | 12 => 77 | 23 => 119 | 24 => 120 | 14 => 110 | 15 => 111 | 16 => 112 | 17 => 113 | 18 => 114 | 19 => 115 | 20 => 116 | 21 => 117 | 22 => 118 | 25 => 152 | 26 => 153 | 27 => 154 | 28 => 155 | 29 => 156 | 30 => 157 | 31 => 183 | n => n, fun | 26 => 9 | 28 => 77 | 24 => 53 | 0 => 0 | 3 => 3 | 37 => 133 | 48 => 171 | 50 => 173 | 4 => 4 | 40 => 164 | 39 => 163 | 45 => 123 | 5 => 5 | 9 => 9 | 51 => 208 | 55 => 212 | 57 => 234 | 58 => 235 | 33 => 108 | n => n, fun | n => n⟩
theorem Tryz.sorted25 : Go.Proofs.SlLaysZ.n6 Tryz.prog Tryz.sorted25_ren := {
  mixed := by kernel_rfl
  f6 := ⟨Tryz.f25.name, by decide, Tryz.func25.trans (congrArg some (by kernel_rfl))⟩
  f8 := ⟨Tryz.f49.name, by decide, Tryz.func49.trans (congrArg some (by kernel_rfl))⟩
  f11 := ⟨Tryz.f76.name, by decide, Tryz.func76.trans (congrArg some (by kernel_rfl))⟩
  t0 := Tryz.underlying0
  a0 := Tryz.isAgg0
  z0 := Tryz.sizeOf0
  v0 := Tryz.zeroValue0
  t24 := Tryz.underlying53
  a24 := Tryz.isAgg53
  z24 := Tryz.sizeOf53
  v24 := Tryz.zeroValue53
  t26 := Tryz.underlying9
  a26 := Tryz.isAgg9
  z26 := Tryz.sizeOf9
  v26 := Tryz.zeroValue9
  t28 := Tryz.underlying77
  a28 := Tryz.isAgg77
  z28 := Tryz.sizeOf77
  v28 := Tryz.zeroValue77
  i26 := by kernel_rfl }
def Tryz.sort50_ren : Go.Shelf.Ren := ⟨fun | 6 => 50 | 8 => 78 | 9 => 77 | 19 => 119 | 20 => 120 | 21 => 110 | 22 => 111 | 23 => 112 | 24 => 113 | 25 => 114 | 26 => 115 | 27 => 116 | 28 => 117 | 29 => 118 | 36 => 152 | 31 => 153 | 32 => 154 | 37 => 155 | 38 => 156 | 39 => 157 | 41 => 183 | n => n, fun | 27 => 53 | 29 => 9 | 3 => 3 | 32 => 133 | 26 => 53 | 0 => 0 | 44 => 171 | 46 => 173 | 4 => 4 | 36 => 164 | 35 => 163 | 41 => 123 | 5 => 5 | 9 => 9 | 53 => 208 | 57 => 212 | 63 => 234 | 64 => 235 | n => n, fun | n => n⟩
theorem Tryz.sort50 : Go.Proofs.SlLaysM.n6 Tryz.prog Tryz.sort50_ren := {
  mixed := by kernel_rfl
  f6 := ⟨Tryz.f50.name, by decide, Tryz.func50.trans (congrArg some (by kernel_rfl))⟩
  f8 := Tryz.func78.trans (congrArg some (by kernel_rfl))
  f9 := ⟨Tryz.f77.name, by decide, Tryz.func77.trans (congrArg some (by kernel_rfl))⟩
  f19 := Tryz.func119.trans (congrArg some (by kernel_rfl))
  f20 := Tryz.func120.trans (congrArg some (by kernel_rfl))
  f21 := ⟨Tryz.f110.name, by decide, Tryz.func110.trans (congrArg some (by kernel_rfl))⟩
  f22 := ⟨Tryz.f111.name, by decide, Tryz.func111.trans (congrArg some (by kernel_rfl))⟩
  f23 := ⟨Tryz.f112.name, by decide, Tryz.func112.trans (congrArg some (by kernel_rfl))⟩
  f24 := ⟨Tryz.f113.name, by decide, Tryz.func113.trans (congrArg some (by kernel_rfl))⟩
  f25 := ⟨Tryz.f114.name, by decide, Tryz.func114.trans (congrArg some (by kernel_rfl))⟩
  f26 := ⟨Tryz.f115.name, by decide, Tryz.func115.trans (congrArg some (by kernel_rfl))⟩
  f27 := ⟨Tryz.f116.name, by decide, Tryz.func116.trans (congrArg some (by kernel_rfl))⟩
  f28 := ⟨Tryz.f117.name, by decide, Tryz.func117.trans (congrArg some (by kernel_rfl))⟩
  f29 := ⟨Tryz.f118.name, by decide, Tryz.func118.trans (congrArg some (by kernel_rfl))⟩
  f31 := Tryz.func153.trans (congrArg some (by kernel_rfl))
  f32 := Tryz.func154.trans (congrArg some (by kernel_rfl))
  f36 := ⟨Tryz.f152.name, by decide, Tryz.func152.trans (congrArg some (by kernel_rfl))⟩
  f37 := ⟨Tryz.f155.name, by decide, Tryz.func155.trans (congrArg some (by kernel_rfl))⟩
  f38 := ⟨Tryz.f156.name, by decide, Tryz.func156.trans (congrArg some (by kernel_rfl))⟩
  f39 := ⟨Tryz.f157.name, by decide, Tryz.func157.trans (congrArg some (by kernel_rfl))⟩
  f41 := ⟨Tryz.f183.name, by decide, Tryz.func183.trans (congrArg some (by kernel_rfl))⟩
  t0 := Tryz.underlying0
  a0 := Tryz.isAgg0
  z0 := Tryz.sizeOf0
  v0 := Tryz.zeroValue0
  t3 := Tryz.underlying3
  a3 := Tryz.isAgg3
  z3 := Tryz.sizeOf3
  v3 := Tryz.zeroValue3
  t4 := Tryz.underlying4
  a4 := Tryz.isAgg4
  z4 := Tryz.sizeOf4
  v4 := Tryz.zeroValue4
  t5 := Tryz.underlying5
  a5 := Tryz.isAgg5
  z5 := Tryz.sizeOf5
  v5 := Tryz.zeroValue5
  t9 := Tryz.underlying9
  a9 := Tryz.isAgg9
  z9 := Tryz.sizeOf9
  v9 := Tryz.zeroValue9
  t26 := Tryz.underlying53
  a26 := Tryz.isAgg53
  z26 := Tryz.sizeOf53
  v26 := Tryz.zeroValue53
  t27 := Tryz.underlying53
  a27 := Tryz.isAgg53
  z27 := Tryz.sizeOf53
  v27 := Tryz.zeroValue53
  t29 := Tryz.underlying9
  a29 := Tryz.isAgg9
  z29 := Tryz.sizeOf9
  v29 := Tryz.zeroValue9
  t32 := Tryz.underlying133
  a32 := Tryz.isAgg133
  z32 := Tryz.sizeOf133
  v32 := Tryz.zeroValue133
  t35 := Tryz.underlying163
  a35 := Tryz.isAgg163
  z35 := Tryz.sizeOf163
  v35 := Tryz.zeroValue163
  t36 := Tryz.underlying164
  a36 := Tryz.isAgg164
  z36 := Tryz.sizeOf164
  v36 := Tryz.zeroValue164
  t41 := Tryz.underlying123
  a41 := Tryz.isAgg123
  z41 := Tryz.sizeOf123
  v41 := Tryz.zeroValue123
  t44 := Tryz.underlying171
  a44 := Tryz.isAgg171
  z44 := Tryz.sizeOf171
  v44 := Tryz.zeroValue171
  t46 := Tryz.underlying173
  a46 := Tryz.isAgg173
  z46 := Tryz.sizeOf173
  v46 := Tryz.zeroValue173
  t53 := Tryz.underlying208
  a53 := Tryz.isAgg208
  z53 := Tryz.sizeOf208
  v53 := Tryz.zeroValue208
  t57 := Tryz.underlying212
  a57 := Tryz.isAgg212
  z57 := Tryz.sizeOf212
  v57 := Tryz.zeroValue212
  t63 := Tryz.underlying234
  a63 := Tryz.isAgg234
  z63 := Tryz.sizeOf234
  v63 := Tryz.zeroValue234
  t64 := Tryz.underlying235
  a64 := Tryz.isAgg235
  z64 := Tryz.sizeOf235
  v64 := Tryz.zeroValue235 }
end Go.Proofs
