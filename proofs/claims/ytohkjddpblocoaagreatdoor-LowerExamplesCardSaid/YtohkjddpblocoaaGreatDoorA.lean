/- LowerExamples: what the run is told. -/
import Derived.Test.YtohkjddpblocoaaGreatDoorFns
import Derived.Test.YtohkjddpblocoaaGreatDoorShelf
import Derived.Test.YtohkjddpblocoaaGreatDoorTpBld
import Derived.Test.YtohkjddpblocoaaGreatDoorTpMemo
import Derived.KernelRfl
namespace Go.Proofs.YtohkjddpblocoaaGreatDoor
open Go.Tp Go.Shelf
set_option maxRecDepth 100000
set_option maxHeartbeats 1000000

def encS (l : List (List UInt8)) : List Dat := l.map fun b => .flat (.string ⟨⟨b⟩⟩)
def prims : List (List UInt8) := [[], [97, 100, 100], [115, 117, 98], [109, 117, 108], [108, 101, 115, 115], [110, 111, 116], [99, 111, 110, 99, 97, 116], [115, 97, 109, 101]]
def synr : List (List UInt8) := [[97, 98, 115, 116, 114, 97, 99, 116], [115, 116, 114, 117, 99, 116], [109, 101, 116, 104, 111, 100], [100, 101, 108, 101, 116, 101], [108, 111, 97, 100], [117, 110, 108, 111, 97, 100], [101, 118, 97, 108], [112, 97, 99, 107, 97, 103, 101], [116, 97, 115, 107], [108, 101, 116], [97, 115, 115, 105, 103, 110], [100, 111], [105, 102], [119, 104, 105, 108, 101], [110, 101, 119], [103, 101, 116], [115, 101, 116], [116, 117, 112, 108, 101], [101, 108, 101, 109, 101, 110, 116], [105, 115], [115, 97, 109, 101], [97, 100, 100], [115, 117, 98], [109, 117, 108], [108, 101, 115, 115], [110, 111, 116], [99, 111, 110, 99, 97, 116], [111, 117, 116, 112, 117, 116], [102, 97, 105, 108], [108, 97, 116, 101, 115, 116], [101, 100, 105, 116], [112, 97, 117, 115, 101], [116, 114, 117, 101], [102, 97, 108, 115, 101], [110, 105, 108], [117, 110, 105, 111, 110], [101, 120, 105, 115, 116, 115], [65, 110, 121], [78, 101, 118, 101, 114]]
def resv : List (List UInt8) := [[65, 110, 121], [78, 101, 118, 101, 114], [116, 117, 112, 108, 101], [117, 110, 105, 111, 110], [101, 120, 105, 115, 116, 115]]
def xglobs : Globs := fun g => match g with | 0 => some [.slice (encS prims)] | 1 => some [.slice (encS synr)] | 6 => some [.slice (encS resv)] | _ => none

/-- Contracts of the library's functions. -/
def libX : XCalls := fun g args heap next =>
  match g with
  | 41 => copyX args heap next
  | 21 => strX args heap next
  | 47 => joinX args heap next
  | _ => none

theorem lays240 : Lays.n240 Tryz.prog Tryz.lays156_ren :=
  { mixed := Tryz.lays156.mixed, f240 := Tryz.lays156.f240, f276 := Tryz.lays156.f276,
    t0 := Tryz.lays156.t0, a0 := Tryz.lays156.a0, z0 := Tryz.lays156.z0, v0 := Tryz.lays156.v0,
    t4 := Tryz.lays156.t4, a4 := Tryz.lays156.a4, z4 := Tryz.lays156.z4, v4 := Tryz.lays156.v4,
    t9 := Tryz.lays156.t9, a9 := Tryz.lays156.a9, z9 := Tryz.lays156.z9, v9 := Tryz.lays156.v9,
    t20 := Tryz.lays156.t20, a20 := Tryz.lays156.a20, z20 := Tryz.lays156.z20, v20 := Tryz.lays156.v20,
    t70 := Tryz.lays156.t70, a70 := Tryz.lays156.a70, z70 := Tryz.lays156.z70, v70 := Tryz.lays156.v70,
    t72 := Tryz.lays156.t72, a72 := Tryz.lays156.a72, z72 := Tryz.lays156.z72, v72 := Tryz.lays156.v72,
    t164 := Tryz.lays156.t164, a164 := Tryz.lays156.a164, z164 := Tryz.lays156.z164, v164 := Tryz.lays156.v164 }

theorem libX_ok : XOk Tryz.prog xglobs libX := by
  intro f args heap next r h
  unfold libX at h
  split at h
  · exact c_copy (ρ := Tryz.lays156_ren) lays240 Tryz.Builder_Extra_156.toX72 rfl h
  · exact c_str (ρ := Tryz.lays169_ren) Tryz.lays169 Tryz.Builder_Extra_169 rfl h
  · exact c_join (ρ := Tryz.lays156_ren) Tryz.lays156 Tryz.Builder_Extra_156 h
  · simp at h

theorem envF : (env Prims.fast).Ok Tryz.prog := by rw [fast_std]; exact env_ok

noncomputable def X : XCalls := fcall (env Prims.fast) xglobs xmoves xcaps ftab.find libX 3000 60
theorem X_ok : XOk Tryz.prog xglobs X := fun f args heap next r h => fcall_sound 3000 envF ftab_ok (M := libX) libX_ok 60 f args heap next r h
end Go.Proofs.YtohkjddpblocoaaGreatDoor
