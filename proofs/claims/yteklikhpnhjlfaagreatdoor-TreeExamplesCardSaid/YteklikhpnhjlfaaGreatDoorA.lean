/- TreeExamples: what the run is told. -/
import Derived.Test.YteklikhpnhjlfaaGreatDoorFns
import Derived.Test.YteklikhpnhjlfaaGreatDoorShelf
import Derived.Test.YteklikhpnhjlfaaGreatDoorV
import Derived.Test.YteklikhpnhjlfaaGreatDoorTpRange
import Derived.Test.YteklikhpnhjlfaaGreatDoorTpPure
import Derived.Test.YteklikhpnhjlfaaGreatDoorTpSort
import Derived.Test.YteklikhpnhjlfaaGreatDoorTpTree
import Derived.KernelRfl
namespace Go.Proofs.YteklikhpnhjlfaaGreatDoor
open Go.Tp Go.Shelf
set_option maxRecDepth 100000
set_option maxHeartbeats 1000000

def encS (l : List (List UInt8)) : List Dat := l.map fun b => .flat (.string ⟨⟨b⟩⟩)
def resv : List (List UInt8) := [[65, 110, 121], [78, 101, 118, 101, 114], [116, 117, 112, 108, 101], [117, 110, 105, 111, 110], [101, 120, 105, 115, 116, 115]]
def xglobs : Globs := fun g => match g with | 0 => some [.slice (encS resv)] | 2 => some [.slice (encS resv)] | _ => none

/-- Contracts of the library's functions. -/
def libX : XCalls := fun g args heap next =>
  match g with
  | 69 => copyX args heap next
  | 37 => strX args heap next
  | 75 => joinX args heap next
  | 35 => repeatX args heap next
  | 23 => sortedRX 60 args heap next
  | 22 => compactX args heap next
  | 211 => sortedX 260 args heap next
  | 79 => cloneSX 14 184 args heap next
  | 80 => cloneMX args heap next
  | 124 => cloneMX args heap next
  | 238 => delAllX 5 args heap next
  | _ => none

theorem sorts23 (m : Nat) : AnyZI.SortsIn Tryz.prog Tryz.sorted23_ren Fence.wide m :=
  ⟨fun blk off cap ss W hH hblk hsz => callsIn_wide.2 (AnyM.slices_Sort_int Tryz.sort59 blk off cap ss W hH hblk hsz),
   fun p cap W => callsIn_wide.2 (AnyM.slices_Sort_int_none Tryz.sort59 p cap W)⟩
theorem sorts211 (m : Nat) : AnyZ.SortsIn Tryz.prog Tryz.sorted211_ren Fence.wide m :=
  ⟨fun blk off cap ss W hH hblk hsz => callsIn_wide.2 (AnyM.slices_Sort_string Tryz.sort259 blk off cap ss W hH hblk hsz),
   fun p cap W => callsIn_wide.2 (AnyM.slices_Sort_string_none Tryz.sort259 p cap W)⟩

theorem lays240 : Lays.n240 Tryz.prog Tryz.lays156_ren :=
  { mixed := Tryz.lays156.mixed, f240 := Tryz.lays156.f240, f276 := Tryz.lays156.f276,
    t0 := Tryz.lays156.t0, a0 := Tryz.lays156.a0, z0 := Tryz.lays156.z0, v0 := Tryz.lays156.v0,
    t4 := Tryz.lays156.t4, a4 := Tryz.lays156.a4, z4 := Tryz.lays156.z4, v4 := Tryz.lays156.v4,
    t9 := Tryz.lays156.t9, a9 := Tryz.lays156.a9, z9 := Tryz.lays156.z9, v9 := Tryz.lays156.v9,
    t20 := Tryz.lays156.t20, a20 := Tryz.lays156.a20, z20 := Tryz.lays156.z20, v20 := Tryz.lays156.v20,
    t70 := Tryz.lays156.t70, a70 := Tryz.lays156.a70, z70 := Tryz.lays156.z70, v70 := Tryz.lays156.v70,
    t72 := Tryz.lays156.t72, a72 := Tryz.lays156.a72, z72 := Tryz.lays156.z72, v72 := Tryz.lays156.v72,
    t164 := Tryz.lays156.t164, a164 := Tryz.lays156.a164, z164 := Tryz.lays156.z164, v164 := Tryz.lays156.v164 }

theorem libX_ok : XOk Tryz.prog xglobs libX := by
  intro f args heap next r h
  unfold libX at h
  split at h
  · exact c_copy (ρ := Tryz.lays156_ren) lays240 Tryz.Builder_Extra_156.toX72 rfl h
  · exact c_str (ρ := Tryz.lays169_ren) Tryz.lays169 Tryz.Builder_Extra_169 rfl h
  · exact c_join (ρ := Tryz.lays156_ren) Tryz.lays156 Tryz.Builder_Extra_156 h
  · exact c_repeat (ρ := Tryz.lays105_ren) Tryz.lays105 Tryz.Builder_Extra_105 h
  · exact c_sortedR (ρ := Tryz.sorted23_ren) Tryz.sorted23 (sorts23 4) (enters_of Tryz.func59 (by kernel_rfl) rfl) (enters_of Tryz.func60 (by kernel_rfl) rfl) valuesGive h
  · exact c_compact (ρ := Tryz.compact22_ren) Tryz.compact22 Tryz.zeroValue3 h
  · exact c_sorted (ρ := Tryz.sorted211_ren) (ρ' := Tryz.keys212_ren) Tryz.sorted211 { Tryz.keys212 with } (sorts211 4) (enters_of Tryz.func259 (by kernel_rfl) rfl) (enters_of Tryz.func260 (by kernel_rfl) rfl) Tryz.underlying9 h
  · exact c_cloneS (ρ := Tryz.clone79_ren) Tryz.clone79 Tryz.t78 _ 14 184 (by kernel_rfl) rfl rfl rfl rfl (by decide) Tryz.sizeOf78 h
  · exact c_cloneM (ρ := Tryz.mclone80_ren) Tryz.mclone80 h
  · exact c_cloneM (ρ := Tryz.mclone124_ren) Tryz.mclone124 h
  · exact c_delAll (ρ := Tryz.del238_ren) Tryz.del238 Tryz.t132 _ 5 (by kernel_rfl) rfl rfl (by decide) (by simp [Value.cells, Value.oneCell']) Tryz.zeroValue132 Tryz.sizeOf132 h
  · simp at h

theorem envF : (env Prims.fast).Ok Tryz.prog := by rw [fast_std]; exact env_ok

noncomputable def X0 : XCalls := fcall (env Prims.fast) xglobs xmoves xcaps ftab.find libX 3000 60
theorem X0_ok : XOk Tryz.prog xglobs X0 := fun f args heap next r h => fcall_sound 3000 envF ftab_ok (M := libX) libX_ok 60 f args heap next r h
/-- .. and the function that ranges over a function. -/
noncomputable def libR : XCalls := orX libX (rangeX X0 (env Prims.fast) xglobs xmoves xcaps ftab.find 3000 fun g => Nat.beq g 194 || Nat.beq g 103)
theorem libR_ok : XOk Tryz.prog xglobs libR := orX_ok libX_ok (rangeX_ok envF ftab_ok X0_ok)
noncomputable def X : XCalls := fcall (env Prims.fast) xglobs xmoves xcaps ftab.find libR 3000 60
theorem X_ok : XOk Tryz.prog xglobs X := fun f args heap next r h => fcall_sound 3000 envF ftab_ok (M := libR) libR_ok 60 f args heap next r h
end Go.Proofs.YteklikhpnhjlfaaGreatDoor
