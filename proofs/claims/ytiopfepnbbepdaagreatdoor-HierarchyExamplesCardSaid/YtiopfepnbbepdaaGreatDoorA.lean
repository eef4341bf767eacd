/- HierarchyExamples: what the run is told, and the run. -/
import Derived.Test.YtiopfepnbbepdaaGreatDoorFns
import Derived.Test.YtiopfepnbbepdaaGreatDoorShelf
import Derived.Test.YtiopfepnbbepdaaGreatDoorTpSort
import Derived.KernelRfl
namespace Go.Proofs.YtiopfepnbbepdaaGreatDoor
open Go.Tp Go.Shelf
set_option maxRecDepth 100000
set_option maxHeartbeats 1000000

def encS (l : List (List UInt8)) : List Dat := l.map fun b => .flat (.string ⟨⟨b⟩⟩)
def resv : List (List UInt8) := [[65, 110, 121], [78, 101, 118, 101, 114], [116, 117, 112, 108, 101], [117, 110, 105, 111, 110], [101, 120, 105, 115, 116, 115]]
def xglobs : Globs := fun g => match g with | 0 => some [.slice (encS resv)] | 2 => some [.slice (encS resv)] | _ => none

/-- Contracts of the library's functions. -/
def libX : XCalls := fun g args heap next =>
  match g with
  | 51 => copyX args heap next
  | 33 => strX args heap next
  | 27 => sortedX 50 args heap next
  | _ => none

def lays240_ren : Ren := ⟨fun | 240 => 51 | 276 => 73 | n => n, fun | 9 => 9 | 0 => 0 | 4 => 4 | 20 => 20 | 70 => 63 | 72 => 66 | 37 => 64 | 164 => 115 | n => n, fun | n => n⟩
theorem lays240 : Lays.n240 Tryz.prog lays240_ren :=
  { mixed := by kernel_rfl
    f240 := Tryz.func51.trans (congrArg some (by kernel_rfl))
    f276 := Tryz.func73.trans (congrArg some (by kernel_rfl))
    t0 := Tryz.underlying0, a0 := Tryz.isAgg0, z0 := Tryz.sizeOf0, v0 := Tryz.zeroValue0
    t4 := Tryz.underlying4, a4 := Tryz.isAgg4, z4 := Tryz.sizeOf4, v4 := Tryz.zeroValue4
    t9 := Tryz.underlying9, a9 := Tryz.isAgg9, z9 := Tryz.sizeOf9, v9 := Tryz.zeroValue9
    t20 := Tryz.underlying20, a20 := Tryz.isAgg20, z20 := Tryz.sizeOf20, v20 := Tryz.zeroValue20
    t70 := Tryz.underlying63, a70 := Tryz.isAgg63, z70 := Tryz.sizeOf63, v70 := Tryz.zeroValue63
    t72 := Tryz.underlying66, a72 := Tryz.isAgg66, z72 := Tryz.sizeOf66, v72 := Tryz.zeroValue66
    t164 := Tryz.underlying115, a164 := Tryz.isAgg115, z164 := Tryz.sizeOf115, v164 := Tryz.zeroValue115 }
theorem extra72 : Builder.X72 Tryz.prog lays240_ren := { sizeBuilder := by kernel_rfl, liesBuilder := by kernel_rfl }

theorem sorts27 (m : Nat) : AnyZ.SortsIn Tryz.prog Tryz.sorted27_ren Fence.wide m :=
  ⟨fun blk off cap ss W hH hblk hsz => callsIn_wide.2 (AnyM.slices_Sort_string Tryz.sort49 blk off cap ss W hH hblk hsz),
   fun p cap W => callsIn_wide.2 (AnyM.slices_Sort_string_none Tryz.sort49 p cap W)⟩

theorem libX_ok : XOk Tryz.prog xglobs libX := by
  intro f args heap next r h
  unfold libX at h
  split at h
  · exact c_copy (ρ := lays240_ren) lays240 extra72 rfl h
  · exact c_str (ρ := Tryz.lays169_ren) Tryz.lays169 Tryz.Builder_Extra_169 rfl h
  · exact c_sorted (ρ := Tryz.sorted27_ren) (ρ' := Tryz.keys28_ren) Tryz.sorted27 { Tryz.keys28 with } (sorts27 4) (enters_of Tryz.func49 (by kernel_rfl) rfl) (enters_of Tryz.func50 (by kernel_rfl) rfl) Tryz.underlying9 h
  · simp at h

theorem envF : (env Prims.fast).Ok Tryz.prog := by rw [fast_std]; exact env_ok

noncomputable def X : XCalls := fcall (env Prims.fast) xglobs xmoves xcaps ftab.find libX 3000 60
theorem X_ok : XOk Tryz.prog xglobs X := fun f args heap next r h => fcall_sound 3000 envF ftab_ok (M := libX) libX_ok 60 f args heap next r h
end Go.Proofs.YtiopfepnbbepdaaGreatDoor
