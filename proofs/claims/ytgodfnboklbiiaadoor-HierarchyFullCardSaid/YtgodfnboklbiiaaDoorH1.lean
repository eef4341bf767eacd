/- HierarchyFull: the states that the loop comes to. -/
import Derived.Test.YtgodfnboklbiiaaDoorFns
import Derived.KernelRfl
namespace Go.Proofs.YtgodfnboklbiiaaDoor
open Go.Tp
set_option maxRecDepth 100000
set_option maxHeartbeats 1000000

def encS (l : List (List UInt8)) : List Dat := l.map fun b => .flat (.string ⟨⟨b⟩⟩)
def resv : List Dat := encS [[65, 110, 121], [78, 101, 118, 101, 114], [116, 117, 112, 108, 101], [117, 110, 105, 111, 110], [101, 120, 105, 115, 116, 115]]
def xglobs : Globs := fun g => match g with | 0 => some [.slice resv] | 1 => some [.slice resv] | _ => none

def modZ (n : Int) : Int := if n.tmod 5 < 0 then n.tmod 5 + 5 else n.tmod 5

/-- The one call with the argument in it. -/
def known : XCalls := fun g args heap next =>
  match g, args with
  | 6, [.dat (.flat (.int .i64 a)), .dat (.flat (.int .i64 b))] => (match eqF b 5 with | true => some (gcR next ⟨iv (modZ a), heap, next⟩) | false => none)
  | _, _ => none
noncomputable def X : XCalls := fcall (env Prims.fast) xglobs xmoves xcaps ftab.find (fun _ _ _ _ => none) 1000 60
noncomputable def XM : XCalls := fun g args heap next => match known g args heap next with | some r => some r | none => X g args heap next

noncomputable def code3 : Code := match Tryd.f3.body with | some c => c | none => .skip
def fstC : Code → Code
  | .seq a _ => a
  | .block _ c => c
  | .loop c => c
  | c => c
def sndC : Code → Code
  | .seq _ b => b
  | c => c
noncomputable def run (c : Code) (f : FState) : Option (Exit × FState) := fcode XM (env Prims.fast) xglobs ⟨xmoves, ord3, xcaps⟩ 52 live3 1000 c f

def nm (l : List UInt8) : ByteArray := ⟨⟨l⟩⟩
def declD (n : ByteArray) (conc : Bool) : Dat := .agg [.flat (.string n), .flat (.int .i64 0), .flat (.int .i64 0), .flat (.string ⟨⟨[]⟩⟩), .flat (.int .i64 0), .slice [], .flat (.bool conc), .slice []]
def bases : List ByteArray := [nm [73, 110, 116], nm [66, 111, 111, 108], nm [83, 116, 114, 105, 110, 103], nm [78, 105, 108]]
def tn (i : Nat) : ByteArray := if i < 10 then nm [84, UInt8.ofNat (48 + i)] else nm [84, UInt8.ofNat (48 + i / 10), UInt8.ofNat (48 + i % 10)]
def genD : Nat → Nat → List Dat
  | _, 0 => []
  | i, k + 1 => declD (tn i) false :: genD (i + 1) k
def genM : Nat → Nat → List (Value × Dat)
  | _, 0 => []
  | i, k + 1 => (.string (tn i), .flat (.int .i64 (Int.ofNat (i + 4)))) :: genM (i + 1) k
def heapS (k : Nat) : Heap :=
  [(.out 1, .cells [.own (bases.map (fun b => declD b true) ++ genD 0 k), .map (.out 0)]),
   (.out 0, .map ([(.string (nm [73, 110, 116]), .flat (.int .i64 0)), (.string (nm [66, 111, 111, 108]), .flat (.int .i64 1)), (.string (nm [83, 116, 114, 105, 110, 103]), .flat (.int .i64 2)), (.string (nm [78, 105, 108]), .flat (.int .i64 3))] ++ genM 0 k))]

/-- The head of the loop. -/
def SS (i c : Int) (h : Heap) : FState := ⟨[(5, iv i), (4, iv c), (3, .ptr (.out 1) 0)], [], h, 2⟩
def S6 (i c : Int) (h : Heap) (b : Bool) : FState := ⟨[(19, bv b), (5, iv i), (4, iv c), (3, .ptr (.out 1) 0)], [], h, 2⟩

/-- (r0 ; (r1 ; (test ; (r4 ; ((r5 ; block) ; (r13 ; ret)))))) -/
noncomputable def cLoopBody : Code := fstC (fstC (sndC (fstC (sndC (sndC (sndC (sndC code3)))))))
noncomputable def cHead : Code := fstC (fstC cLoopBody)
noncomputable def cTest : Code := sndC (fstC cLoopBody)
noncomputable def cRest : Code := sndC cLoopBody
noncomputable def cPost : Code := sndC (sndC (sndC (sndC (sndC code3))))
theorem code3_eq : code3 = .seq (fstC code3) (.seq (fstC (sndC code3)) (.seq (fstC (sndC (sndC code3))) (.seq (fstC (sndC (sndC (sndC code3)))) (.seq (.seq (fstC (fstC (sndC (sndC (sndC (sndC code3)))))) (.block 0 (.loop cLoopBody))) cPost)))) := by kernel_rfl
theorem body_eq : cLoopBody = .seq (.seq cHead cTest) cRest := by kernel_rfl

noncomputable def cPre : Code := .seq (fstC code3) (.seq (fstC (sndC code3)) (.seq (fstC (sndC (sndC code3))) (.seq (fstC (sndC (sndC (sndC code3)))) (fstC (fstC (sndC (sndC (sndC (sndC code3)))))))))
end Go.Proofs.YtgodfnboklbiiaaDoor
