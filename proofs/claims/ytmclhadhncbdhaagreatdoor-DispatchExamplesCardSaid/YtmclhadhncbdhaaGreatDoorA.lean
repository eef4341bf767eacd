/- DispatchExamples: what the run is told. -/
import Derived.Test.YtmclhadhncbdhaaGreatDoorFns
import Derived.Test.YtmclhadhncbdhaaGreatDoorShelf
import Derived.Test.YtmclhadhncbdhaaGreatDoorV
import Derived.Test.YtmclhadhncbdhaaGreatDoorTpRange
import Derived.Test.YtmclhadhncbdhaaGreatDoorTpPure
import Derived.KernelRfl
namespace Go.Proofs.YtmclhadhncbdhaaGreatDoor
open Go.Tp Go.Shelf
set_option maxRecDepth 100000
set_option maxHeartbeats 1000000

def encS (l : List (List UInt8)) : List Dat := l.map fun b => .flat (.string ⟨⟨b⟩⟩)
def resv : List (List UInt8) := [[65, 110, 121], [78, 101, 118, 101, 114], [116, 117, 112, 108, 101], [117, 110, 105, 111, 110], [101, 120, 105, 115, 116, 115]]
def xglobs : Globs := fun g => match g with | 0 => some [.slice (encS resv)] | 1 => some [.slice (encS resv)] | _ => none

/-- Contracts of the library's functions. -/
def libX : XCalls := fun g args heap next =>
  match g with
  | 65 => sortedVX 111 args heap next
  | 39 => cloneSX 14 184 args heap next
  | 40 => cloneMX args heap next
  | 75 => cloneMX args heap next
  | 169 => delAllX 5 args heap next
  | _ => none

theorem sorts65 (m : Nat) : AnyZI.SortsIn Tryz.prog Tryz.sorted65_ren Fence.wide m :=
  ⟨fun blk off cap ss W hH hblk hsz => callsIn_wide.2 (AnyM.slices_Sort_int Tryz.sort110 blk off cap ss W hH hblk hsz),
   fun p cap W => callsIn_wide.2 (AnyM.slices_Sort_int_none Tryz.sort110 p cap W)⟩

theorem libX_ok : XOk Tryz.prog xglobs libX := by
  intro f args heap next r h
  unfold libX at h
  split at h
  · exact c_sortedV (ρ := Tryz.sorted65_ren) Tryz.sorted65 (sorts65 4) (enters_of Tryz.func110 (by kernel_rfl) rfl) (enters_of Tryz.func111 (by kernel_rfl) rfl) valuesGive h
  · exact c_cloneS (ρ := Tryz.clone39_ren) Tryz.clone39 Tryz.t88 _ 14 184 (by kernel_rfl) rfl rfl rfl rfl (by decide) Tryz.sizeOf88 h
  · exact c_cloneM (ρ := Tryz.mclone40_ren) Tryz.mclone40 h
  · exact c_cloneM (ρ := Tryz.mclone75_ren) Tryz.mclone75 h
  · exact c_delAll (ρ := Tryz.del169_ren) Tryz.del169 Tryz.t123 _ 5 (by kernel_rfl) rfl rfl (by decide) (by simp [Value.cells, Value.oneCell']) Tryz.zeroValue123 Tryz.sizeOf123 h
  · simp at h

theorem envF : (env Prims.fast).Ok Tryz.prog := by rw [fast_std]; exact env_ok

noncomputable def X0 : XCalls := fcall (env Prims.fast) xglobs xmoves xcaps ftab.find libX 3000 60
theorem X0_ok : XOk Tryz.prog xglobs X0 := fun f args heap next r h => fcall_sound 3000 envF ftab_ok (M := libX) libX_ok 60 f args heap next r h
/-- .. and the function that ranges over a function. -/
noncomputable def libR : XCalls := orX libX (rangeX X0 (env Prims.fast) xglobs xmoves xcaps ftab.find 3000 fun g => Nat.beq g 131)
theorem libR_ok : XOk Tryz.prog xglobs libR := orX_ok libX_ok (rangeX_ok envF ftab_ok X0_ok)
noncomputable def X : XCalls := fcall (env Prims.fast) xglobs xmoves xcaps ftab.find libR 3000 60
theorem X_ok : XOk Tryz.prog xglobs X := fun f args heap next r h => fcall_sound 3000 envF ftab_ok (M := libR) libR_ok 60 f args heap next r h
end Go.Proofs.YtmclhadhncbdhaaGreatDoor
