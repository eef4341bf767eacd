/- IrLimits: what the run is told. -/
import Derived.Test.YtgodfnboklbiiacGreatDoorFns
import Derived.Test.YtgodfnboklbiiacGreatDoorShelf
import Derived.Test.YtgodfnboklbiiacGreatDoorTpBld
import Derived.KernelRfl
namespace Go.Proofs.YtgodfnboklbiiacGreatDoor
open Go.Tp Go.Shelf
set_option maxRecDepth 100000
set_option maxHeartbeats 1000000

def encS (l : List (List UInt8)) : List Dat := l.map fun b => .flat (.string ⟨⟨b⟩⟩)
def prims : List (List UInt8) := [[], [97, 100, 100], [115, 117, 98], [109, 117, 108], [108, 101, 115, 115], [110, 111, 116], [99, 111, 110, 99, 97, 116], [115, 97, 109, 101]]
def resv : List (List UInt8) := [[65, 110, 121], [78, 101, 118, 101, 114], [116, 117, 112, 108, 101], [117, 110, 105, 111, 110], [101, 120, 105, 115, 116, 115]]
def xglobs : Globs := fun g => match g with | 0 => some [.slice (encS prims)] | 3 => some [.slice (encS resv)] | _ => none

/-- Contracts of the library's functions. -/
def libX : XCalls := fun g args heap next =>
  match g with
  | 21 => copyX args heap next
  | 15 => strX args heap next
  | 26 => joinX args heap next
  | _ => none

theorem lays240 : Lays.n240 Tryz.prog Tryz.lays156_ren :=
  { mixed := Tryz.lays156.mixed, f240 := Tryz.lays156.f240, f276 := Tryz.lays156.f276,
    t0 := Tryz.lays156.t0, a0 := Tryz.lays156.a0, z0 := Tryz.lays156.z0, v0 := Tryz.lays156.v0,
    t4 := Tryz.lays156.t4, a4 := Tryz.lays156.a4, z4 := Tryz.lays156.z4, v4 := Tryz.lays156.v4,
    t9 := Tryz.lays156.t9, a9 := Tryz.lays156.a9, z9 := Tryz.lays156.z9, v9 := Tryz.lays156.v9,
    t20 := Tryz.lays156.t20, a20 := Tryz.lays156.a20, z20 := Tryz.lays156.z20, v20 := Tryz.lays156.v20,
    t70 := Tryz.lays156.t70, a70 := Tryz.lays156.a70, z70 := Tryz.lays156.z70, v70 := Tryz.lays156.v70,
    t72 := Tryz.lays156.t72, a72 := Tryz.lays156.a72, z72 := Tryz.lays156.z72, v72 := Tryz.lays156.v72,
    t164 := Tryz.lays156.t164, a164 := Tryz.lays156.a164, z164 := Tryz.lays156.z164, v164 := Tryz.lays156.v164 }

theorem libX_ok : XOk Tryz.prog xglobs libX := by
  intro f args heap next r h
  unfold libX at h
  split at h
  · exact c_copy (ρ := Tryz.lays156_ren) lays240 Tryz.Builder_Extra_156.toX72 rfl h
  · exact c_str (ρ := Tryz.lays169_ren) Tryz.lays169 Tryz.Builder_Extra_169 rfl h
  · exact c_join (ρ := Tryz.lays156_ren) Tryz.lays156 Tryz.Builder_Extra_156 h
  · simp at h

theorem envF : (env Prims.fast).Ok Tryz.prog := by rw [fast_std]; exact env_ok

noncomputable def X : XCalls := fcall (env Prims.fast) xglobs xmoves xcaps ftab.find libX 3000 60
theorem X_ok : XOk Tryz.prog xglobs X := fun f args heap next r h => fcall_sound 3000 envF ftab_ok (M := libX) libX_ok 60 f args heap next r h

def modZ (n m : Int) : Int := if n.tmod m < 0 then n.tmod m + m else n.tmod m
/-- The two calls with an argument in them. -/
def known : XCalls := fun g args heap next =>
  match g, args with
  | 4, [.dat (.flat (.int .i64 a)), .dat (.flat (.int .i64 b))] => (match eqF b 3 with
    | true => some (gcR next ⟨iv (modZ a 3), heap, next⟩)
    | false => (match eqF b 4 with | true => some (gcR next ⟨iv (modZ a 4), heap, next⟩) | false => none))
  | _, _ => none
noncomputable def XM : XCalls := fun g args heap next => match known g args heap next with | some r => some r | none => X g args heap next

def fstC : Code → Code
  | .seq a _ => a
  | .block _ c => c
  | .loop c => c
  | c => c
def sndC : Code → Code
  | .seq _ b => b
  | c => c
noncomputable def code3 : Code := match Tryz.f3.body with | some c => c | none => .skip
noncomputable def run (c : Code) (f : FState) : Option (Exit × FState) := fcode XM (env Prims.fast) xglobs ⟨xmoves, ord3, xcaps, rowsOf xcaps 3⟩ 88 live3 3000 c f
end Go.Proofs.YtgodfnboklbiiacGreatDoor
