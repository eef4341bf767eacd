/-
  DERIVED: THE SHELF's CONTRACTS AT THIS DUMP, IN PLAIN WORDS (tools/lay-plain.mjs out of 'TryzShelfK.lean', which tools/lay-shelf.mjs wrote): THE SAME DECLARATIONS UNDER THE SAME NAMES: 'import', 'namespace', 'open', 'def', 'theorem' AND NOTHING ELSE: no command of the shelf's: FOR A HAND-IN. Each laying: the table of numbers ('.._ren') and one theorem, a field a fact of the dump's own or the kernel's comparison; each contract: ONE APPLICATION.
-/
import Derived.Shelf.SlGeneric
import Derived.Ground.SlgnProg
import Derived.Ground.GgzProg
import Derived.Ground.SlgmProg
import Derived.Ground.SlmcProg
import Derived.Shelf.SlIter.Nil
import Derived.Shelf.SortM.Plain
import Derived.Shelf.SortM.SortNone
import Derived.Shelf.SlLaysE0
import Derived.Shelf.SlLaysW
import Derived.Shelf.SlMaps.Clone
import Derived.Shelf.SlicesE.Clone
import Derived.Shelf.SlicesE.Delete
import Derived.Test.YteanmfacikjjhaaGreatDoorProg
namespace Go.Proofs
open Go.Shelf
def Tryz.clone30_ren : Go.Shelf.Ren := ⟨fun | 41 => 30 | n => n, fun | 22 => 43 | 23 => 62 | 4 => 4 | n => n, fun | n => n⟩
theorem Tryz.clone30 : Go.Proofs.SlLaysE0.n41 Tryz.prog Tryz.clone30_ren := {
  mixed := by kernel_rfl
  f41 := ⟨Tryz.f30.name, by decide, Tryz.func30.trans (congrArg some (by kernel_rfl))⟩
  t4 := Tryz.underlying4
  a4 := Tryz.isAgg4
  z4 := Tryz.sizeOf4
  v4 := Tryz.zeroValue4
  t22 := Tryz.underlying43
  a22 := Tryz.isAgg43
  z22 := Tryz.sizeOf43
  v22 := Tryz.zeroValue43 }
def Tryz.mclone31_ren : Go.Shelf.Ren := ⟨fun | 5 => 31 | 7 => 49 | n => n, fun | 23 => 50 | 25 => 9 | 3 => 4 | 4 => 4 | 20 => 20 | n => n, fun | n => n⟩
theorem Tryz.mclone31 : Go.Proofs.SlLaysW.n5 Tryz.prog Tryz.mclone31_ren := {
  mixed := by kernel_rfl
  f5 := ⟨Tryz.f31.name, by decide, Tryz.func31.trans (congrArg some (by kernel_rfl))⟩
  f7 := Tryz.func49.trans (congrArg some (by kernel_rfl))
  t4 := Tryz.underlying4
  a4 := Tryz.isAgg4
  z4 := Tryz.sizeOf4
  v4 := Tryz.zeroValue4
  t20 := Tryz.underlying20
  a20 := Tryz.isAgg20
  z20 := Tryz.sizeOf20
  v20 := Tryz.zeroValue20
  t23 := Tryz.underlying50
  a23 := Tryz.isAgg50
  z23 := Tryz.sizeOf50
  v23 := Tryz.zeroValue50 }
def Tryz.mclone48_ren : Go.Shelf.Ren := ⟨fun | 5 => 48 | 7 => 49 | n => n, fun | 23 => 75 | 25 => 9 | 3 => 3 | 4 => 4 | 20 => 20 | n => n, fun | n => n⟩
theorem Tryz.mclone48 : Go.Proofs.SlLaysW.n5 Tryz.prog Tryz.mclone48_ren := {
  mixed := by kernel_rfl
  f5 := ⟨Tryz.f48.name, by decide, Tryz.func48.trans (congrArg some (by kernel_rfl))⟩
  f7 := Tryz.func49.trans (congrArg some (by kernel_rfl))
  t4 := Tryz.underlying4
  a4 := Tryz.isAgg4
  z4 := Tryz.sizeOf4
  v4 := Tryz.zeroValue4
  t20 := Tryz.underlying20
  a20 := Tryz.isAgg20
  z20 := Tryz.sizeOf20
  v20 := Tryz.zeroValue20
  t23 := Tryz.underlying75
  a23 := Tryz.isAgg75
  z23 := Tryz.sizeOf75
  v23 := Tryz.zeroValue75 }
def Tryz.del114_ren : Go.Shelf.Ren := ⟨fun | 45 => 114 | n => n, fun | 22 => 134 | 23 => 141 | 3 => 3 | 4 => 4 | 0 => 0 | n => n, fun | n => n⟩
theorem Tryz.del114 : Go.Proofs.SlLaysE0.n45 Tryz.prog Tryz.del114_ren := {
  mixed := by kernel_rfl
  f45 := ⟨Tryz.f114.name, by decide, Tryz.func114.trans (congrArg some (by kernel_rfl))⟩
  t0 := Tryz.underlying0
  a0 := Tryz.isAgg0
  z0 := Tryz.sizeOf0
  v0 := Tryz.zeroValue0
  t3 := Tryz.underlying3
  a3 := Tryz.isAgg3
  z3 := Tryz.sizeOf3
  v3 := Tryz.zeroValue3
  t4 := Tryz.underlying4
  a4 := Tryz.isAgg4
  z4 := Tryz.sizeOf4
  v4 := Tryz.zeroValue4
  t22 := Tryz.underlying134
  a22 := Tryz.isAgg134
  z22 := Tryz.sizeOf134
  v22 := Tryz.zeroValue134 }
end Go.Proofs
