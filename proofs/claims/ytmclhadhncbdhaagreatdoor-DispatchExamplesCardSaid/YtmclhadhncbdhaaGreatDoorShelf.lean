/-
  DERIVED: THE SHELF's CONTRACTS AT THIS DUMP, IN PLAIN WORDS (tools/lay-plain.mjs out of 'TryzShelfK.lean', which tools/lay-shelf.mjs wrote): THE SAME DECLARATIONS UNDER THE SAME NAMES: 'import', 'namespace', 'open', 'def', 'theorem' AND NOTHING ELSE: no command of the shelf's: FOR A HAND-IN. Each laying: the table of numbers ('.._ren') and one theorem, a field a fact of the dump's own or the kernel's comparison; each contract: ONE APPLICATION.
-/
import Derived.Shelf.SlGeneric
import Derived.Ground.SlgnProg
import Derived.Ground.GgzProg
import Derived.Ground.SlgmProg
import Derived.Ground.SlmcProg
import Derived.Shelf.SlIterI.Sorted
import Derived.Shelf.SortM.Plain
import Derived.Shelf.SortM.SortNone
import Derived.Shelf.SlLaysE0
import Derived.Shelf.SlLaysW
import Derived.Shelf.SlMaps.Clone
import Derived.Shelf.SlicesE.Clone
import Derived.Shelf.SlicesE.Delete
import Derived.Test.YtmclhadhncbdhaaGreatDoorProg
namespace Go.Proofs
open Go.Shelf
def Tryz.clone39_ren : Go.Shelf.Ren := ⟨fun | 41 => 39 | n => n, fun | 22 => 60 | 23 => 88 | 4 => 4 | n => n, fun | n => n⟩
theorem Tryz.clone39 : Go.Proofs.SlLaysE0.n41 Tryz.prog Tryz.clone39_ren := {
  mixed := by kernel_rfl
  f41 := ⟨Tryz.f39.name, by decide, Tryz.func39.trans (congrArg some (by kernel_rfl))⟩
  t4 := Tryz.underlying4
  a4 := Tryz.isAgg4
  z4 := Tryz.sizeOf4
  v4 := Tryz.zeroValue4
  t22 := Tryz.underlying60
  a22 := Tryz.isAgg60
  z22 := Tryz.sizeOf60
  v22 := Tryz.zeroValue60 }
def Tryz.mclone40_ren : Go.Shelf.Ren := ⟨fun | 5 => 40 | 7 => 76 | n => n, fun | 23 => 59 | 25 => 9 | 3 => 4 | 4 => 4 | 20 => 20 | n => n, fun | n => n⟩
theorem Tryz.mclone40 : Go.Proofs.SlLaysW.n5 Tryz.prog Tryz.mclone40_ren := {
  mixed := by kernel_rfl
  f5 := ⟨Tryz.f40.name, by decide, Tryz.func40.trans (congrArg some (by kernel_rfl))⟩
  f7 := Tryz.func76.trans (congrArg some (by kernel_rfl))
  t4 := Tryz.underlying4
  a4 := Tryz.isAgg4
  z4 := Tryz.sizeOf4
  v4 := Tryz.zeroValue4
  t20 := Tryz.underlying20
  a20 := Tryz.isAgg20
  z20 := Tryz.sizeOf20
  v20 := Tryz.zeroValue20
  t23 := Tryz.underlying59
  a23 := Tryz.isAgg59
  z23 := Tryz.sizeOf59
  v23 := Tryz.zeroValue59 }
def Tryz.mclone75_ren : Go.Shelf.Ren := ⟨fun | 5 => 75 | 7 => 76 | n => n, fun | 23 => 98 | 25 => 9 | 3 => 3 | 4 => 4 | 20 => 20 | n => n, fun | n => n⟩
theorem Tryz.mclone75 : Go.Proofs.SlLaysW.n5 Tryz.prog Tryz.mclone75_ren := {
  mixed := by kernel_rfl
  f5 := ⟨Tryz.f75.name, by decide, Tryz.func75.trans (congrArg some (by kernel_rfl))⟩
  f7 := Tryz.func76.trans (congrArg some (by kernel_rfl))
  t4 := Tryz.underlying4
  a4 := Tryz.isAgg4
  z4 := Tryz.sizeOf4
  v4 := Tryz.zeroValue4
  t20 := Tryz.underlying20
  a20 := Tryz.isAgg20
  z20 := Tryz.sizeOf20
  v20 := Tryz.zeroValue20
  t23 := Tryz.underlying98
  a23 := Tryz.isAgg98
  z23 := Tryz.sizeOf98
  v23 := Tryz.zeroValue98 }
def Tryz.del169_ren : Go.Shelf.Ren := ⟨fun | 45 => 169 | n => n, fun | 22 => 118 | 23 => 123 | 3 => 3 | 4 => 4 | 0 => 0 | n => n, fun | n => n⟩
theorem Tryz.del169 : Go.Proofs.SlLaysE0.n45 Tryz.prog Tryz.del169_ren := {
  mixed := by kernel_rfl
  f45 := ⟨Tryz.f169.name, by decide, Tryz.func169.trans (congrArg some (by kernel_rfl))⟩
  t0 := Tryz.underlying0
  a0 := Tryz.isAgg0
  z0 := Tryz.sizeOf0
  v0 := Tryz.zeroValue0
  t3 := Tryz.underlying3
  a3 := Tryz.isAgg3
  z3 := Tryz.sizeOf3
  v3 := Tryz.zeroValue3
  t4 := Tryz.underlying4
  a4 := Tryz.isAgg4
  z4 := Tryz.sizeOf4
  v4 := Tryz.zeroValue4
  t22 := Tryz.underlying118
  a22 := Tryz.isAgg118
  z22 := Tryz.sizeOf118
  v22 := Tryz.zeroValue118 }
def Tryz.sorted65_ren : Go.Shelf.Ren := ⟨fun | 6 => 65 | 8 => 109 | 9 => 110 | 11 => 159 | 13 => 161 | 12 => 160 | 23 => 208 | 24 => 209 | 14 => 199 | 15 => 200 | 16 => 201 | 17 => 202 | 18 => 203 | 19 => 204 | 20 => 205 | 21 => 206 | 22 => 207 | 25 => 241 | 26 => 242 | 27 => 243 | 28 => 244 | 29 => 245 | 30 => 219 | 31 => 269 | n => n, fun | 26 => 3 | 28 => 133 | 24 => 46 | 0 => 0 | 3 => 3 | 37 => 208 | 48 => 257 | 50 => 259 | 4 => 4 | 40 => 250 | 39 => 249 | 45 => 90 | 5 => 5 | 9 => 9 | 51 => 287 | 55 => 276 | 57 => 308 | 58 => 309 | 33 => 126 | n => n, fun | n => n⟩
theorem Tryz.sorted65 : Go.Proofs.SlLaysZI.n6 Tryz.prog Tryz.sorted65_ren := {
  mixed := by kernel_rfl
  f6 := ⟨Tryz.f65.name, by decide, Tryz.func65.trans (congrArg some (by kernel_rfl))⟩
  f8 := ⟨Tryz.f109.name, by decide, Tryz.func109.trans (congrArg some (by kernel_rfl))⟩
  f11 := ⟨Tryz.f159.name, by decide, Tryz.func159.trans (congrArg some (by kernel_rfl))⟩
  t0 := Tryz.underlying0
  a0 := Tryz.isAgg0
  z0 := Tryz.sizeOf0
  v0 := Tryz.zeroValue0
  t24 := Tryz.underlying46
  a24 := Tryz.isAgg46
  z24 := Tryz.sizeOf46
  v24 := Tryz.zeroValue46
  t26 := Tryz.underlying3
  a26 := Tryz.isAgg3
  z26 := Tryz.sizeOf3
  v26 := Tryz.zeroValue3
  t28 := Tryz.underlying133
  a28 := Tryz.isAgg133
  z28 := Tryz.sizeOf133
  v28 := Tryz.zeroValue133
  i26 := by kernel_rfl }
def Tryz.sort110_ren : Go.Shelf.Ren := ⟨fun | 5 => 110 | 8 => 161 | 7 => 160 | 19 => 208 | 20 => 209 | 10 => 199 | 11 => 200 | 12 => 201 | 13 => 202 | 14 => 203 | 15 => 204 | 16 => 205 | 17 => 206 | 18 => 207 | 30 => 241 | 31 => 242 | 32 => 243 | 33 => 244 | 34 => 245 | 35 => 219 | 40 => 269 | n => n, fun | 23 => 46 | 25 => 3 | 3 => 3 | 32 => 208 | 22 => 46 | 0 => 0 | 44 => 257 | 46 => 259 | 4 => 4 | 36 => 250 | 35 => 249 | 41 => 90 | 5 => 5 | 9 => 9 | 53 => 287 | 57 => 276 | 63 => 308 | 64 => 309 | n => n, fun | n => n⟩
theorem Tryz.sort110 : Go.Proofs.SlLaysM.n5 Tryz.prog Tryz.sort110_ren := {
  mixed := by kernel_rfl
  f5 := ⟨Tryz.f110.name, by decide, Tryz.func110.trans (congrArg some (by kernel_rfl))⟩
  f7 := ⟨Tryz.f160.name, by decide, Tryz.func160.trans (congrArg some (by kernel_rfl))⟩
  f8 := Tryz.func161.trans (congrArg some (by kernel_rfl))
  f10 := ⟨Tryz.f199.name, by decide, Tryz.func199.trans (congrArg some (by kernel_rfl))⟩
  f11 := ⟨Tryz.f200.name, by decide, Tryz.func200.trans (congrArg some (by kernel_rfl))⟩
  f12 := ⟨Tryz.f201.name, by decide, Tryz.func201.trans (congrArg some (by kernel_rfl))⟩
  f13 := ⟨Tryz.f202.name, by decide, Tryz.func202.trans (congrArg some (by kernel_rfl))⟩
  f14 := ⟨Tryz.f203.name, by decide, Tryz.func203.trans (congrArg some (by kernel_rfl))⟩
  f15 := ⟨Tryz.f204.name, by decide, Tryz.func204.trans (congrArg some (by kernel_rfl))⟩
  f16 := ⟨Tryz.f205.name, by decide, Tryz.func205.trans (congrArg some (by kernel_rfl))⟩
  f17 := ⟨Tryz.f206.name, by decide, Tryz.func206.trans (congrArg some (by kernel_rfl))⟩
  f18 := ⟨Tryz.f207.name, by decide, Tryz.func207.trans (congrArg some (by kernel_rfl))⟩
  f19 := Tryz.func208.trans (congrArg some (by kernel_rfl))
  f20 := Tryz.func209.trans (congrArg some (by kernel_rfl))
  f30 := ⟨Tryz.f241.name, by decide, Tryz.func241.trans (congrArg some (by kernel_rfl))⟩
  f31 := Tryz.func242.trans (congrArg some (by kernel_rfl))
  f32 := Tryz.func243.trans (congrArg some (by kernel_rfl))
  f33 := ⟨Tryz.f244.name, by decide, Tryz.func244.trans (congrArg some (by kernel_rfl))⟩
  f34 := ⟨Tryz.f245.name, by decide, Tryz.func245.trans (congrArg some (by kernel_rfl))⟩
  f35 := ⟨Tryz.f219.name, by decide, Tryz.func219.trans (congrArg some (by kernel_rfl))⟩
  f40 := ⟨Tryz.f269.name, by decide, Tryz.func269.trans (congrArg some (by kernel_rfl))⟩
  t0 := Tryz.underlying0
  a0 := Tryz.isAgg0
  z0 := Tryz.sizeOf0
  v0 := Tryz.zeroValue0
  t3 := Tryz.underlying3
  a3 := Tryz.isAgg3
  z3 := Tryz.sizeOf3
  v3 := Tryz.zeroValue3
  t4 := Tryz.underlying4
  a4 := Tryz.isAgg4
  z4 := Tryz.sizeOf4
  v4 := Tryz.zeroValue4
  t5 := Tryz.underlying5
  a5 := Tryz.isAgg5
  z5 := Tryz.sizeOf5
  v5 := Tryz.zeroValue5
  t9 := Tryz.underlying9
  a9 := Tryz.isAgg9
  z9 := Tryz.sizeOf9
  v9 := Tryz.zeroValue9
  t22 := Tryz.underlying46
  a22 := Tryz.isAgg46
  z22 := Tryz.sizeOf46
  v22 := Tryz.zeroValue46
  t23 := Tryz.underlying46
  a23 := Tryz.isAgg46
  z23 := Tryz.sizeOf46
  v23 := Tryz.zeroValue46
  t25 := Tryz.underlying3
  a25 := Tryz.isAgg3
  z25 := Tryz.sizeOf3
  v25 := Tryz.zeroValue3
  t32 := Tryz.underlying208
  a32 := Tryz.isAgg208
  z32 := Tryz.sizeOf208
  v32 := Tryz.zeroValue208
  t35 := Tryz.underlying249
  a35 := Tryz.isAgg249
  z35 := Tryz.sizeOf249
  v35 := Tryz.zeroValue249
  t36 := Tryz.underlying250
  a36 := Tryz.isAgg250
  z36 := Tryz.sizeOf250
  v36 := Tryz.zeroValue250
  t41 := Tryz.underlying90
  a41 := Tryz.isAgg90
  z41 := Tryz.sizeOf90
  v41 := Tryz.zeroValue90
  t44 := Tryz.underlying257
  a44 := Tryz.isAgg257
  z44 := Tryz.sizeOf257
  v44 := Tryz.zeroValue257
  t46 := Tryz.underlying259
  a46 := Tryz.isAgg259
  z46 := Tryz.sizeOf259
  v46 := Tryz.zeroValue259
  t53 := Tryz.underlying287
  a53 := Tryz.isAgg287
  z53 := Tryz.sizeOf287
  v53 := Tryz.zeroValue287
  t57 := Tryz.underlying276
  a57 := Tryz.isAgg276
  z57 := Tryz.sizeOf276
  v57 := Tryz.zeroValue276
  t63 := Tryz.underlying308
  a63 := Tryz.isAgg308
  z63 := Tryz.sizeOf308
  v63 := Tryz.zeroValue308
  t64 := Tryz.underlying309
  a64 := Tryz.isAgg309
  z64 := Tryz.sizeOf309
  v64 := Tryz.zeroValue309 }
end Go.Proofs
