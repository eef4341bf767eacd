/- IrLimits: hasFreeCycle. -/
import Derived.Test.YtgodfnboklbiiacGreatDoorB
import Derived.Test.YtgodfnboklbiiacGreatDoorTpLast
namespace Go.Proofs.YtgodfnboklbiiacGreatDoor
open Go.Tp
set_option maxRecDepth 100000
noncomputable def code18 : Code := match Tryz.f18.body with | some c => c | none => .skip
noncomputable def run18 (c : Code) (f : FState) : Option (Exit × FState) := fcode X (env Prims.fast) xglobs ⟨xmoves, ord18, xcaps, rowsOf xcaps 18⟩ 135 live18 3000 c f
/-- r0 ; r1 ; r2 -/
noncomputable def pre18 : Code := .seq (fstC code18) (.seq (fstC (sndC code18)) (fstC (fstC (sndC (sndC code18)))))
noncomputable def blk18 : Code := sndC (fstC (sndC (sndC code18)))
noncomputable def body18 : Code := fstC (fstC blk18)
noncomputable def post18 : Code := sndC (sndC (sndC code18))
theorem code18_eq : code18 = .seq (fstC code18) (.seq (fstC (sndC code18)) (.seq (.seq (fstC (fstC (sndC (sndC code18)))) (.block 0 (.loop body18))) post18)) := by kernel_rfl
def ticks : Nat → List Dat
  | 0 => []
  | n + 1 => instrD 14 :: ticks n
def codeA (es : List Dat) : AVal := .dat (.agg [.flat (.int .i64 0), .flat (.int .i64 1), .slice es, .flat (.slice none 0 0)])
end Go.Proofs.YtgodfnboklbiiacGreatDoor
namespace Go.Proofs.YtgodfnboklbiiacGreatDoor
open Go.Tp
set_option maxRecDepth 100000

def strD (l : List UInt8) : Dat := .flat (.string ⟨⟨l⟩⟩)
def bD (b : Bool) : Dat := .flat (.bool b)
def shape14 : AVal := .tup [.dat (.agg [strD [116, 105, 99, 107], bD false, bD false, bD false, bD false, bD false, bD false, bD false, bD false, bD true, bD false, bD false]), .dat (bD true)]
noncomputable def code17 : Code := match Tryz.f17.body with | some c => c | none => .skip
noncomputable def run17 (f : FState) : Option XRes := match fcode (fun _ _ _ _ => none) (env Prims.fast) xglobs ⟨xmoves, ord17, xcaps, rowsOf xcaps 17⟩ 38 live17 1000 code17 f with | some (.ret, f) => fret (env Prims.fast) 38 Tryz.f17.results.toList f | _ => none
theorem sh14 (h : Heap) (k : Nat) : run17 ⟨[(0, iv 14)], [], h, k⟩ = some ⟨shape14, h, k⟩ := by kernel_rfl

noncomputable def code16 : Code := match Tryz.f16.body with | some c => c | none => .skip
noncomputable def run16 (f : FState) : Option XRes := match fcode X (env Prims.fast) xglobs ⟨xmoves, ord16, xcaps, rowsOf xcaps 16⟩ 81 live16 1000 code16 f with | some (.ret, f) => fret (env Prims.fast) 81 Tryz.f16.results.toList f | _ => none
theorem vi14 (es : List Dat) : run16 ⟨[(0, codeA es), (1, .dat (instrD 14))], [], [], 0⟩ = some ⟨bv true, [], 0⟩ := by kernel_rfl

theorem c_sh14 (heap : Heap) (next : Nat) : ACalls Tryz.prog xglobs 17 [iv 14] heap next (XQ ⟨shape14, heap, next⟩) := by
  have h := sh14 heap next
  unfold run17 at h
  split at h
  · rename_i f hf
    exact acalls_of_run0 (fn := Tryz.f17) (c := code17) (moves := xmoves) (caps := xcaps) (ord := ord17) (live := live17) (fuel := 1000) envF (X := fun _ _ _ _ => none) (by intro f args heap next r h; simp at h) Tryz.func17 (by kernel_rfl) (by kernel_rfl) (of_decide_eq_true (by kernel_rfl)) hf h
  · simp at h

theorem c_vi14 (es : List Dat) : ACalls Tryz.prog xglobs 16 [codeA es, .dat (instrD 14)] [] 0 (XQ ⟨bv true, [], 0⟩) := by
  have h := vi14 es
  unfold run16 at h
  split at h
  · rename_i f hf
    exact acalls_of_run0 (fn := Tryz.f16) (c := code16) (moves := xmoves) (caps := xcaps) (ord := ord16) (live := live16) (fuel := 1000) envF X_ok Tryz.func16 (by kernel_rfl) (by kernel_rfl) (of_decide_eq_true (by kernel_rfl)) hf h
  · simp at h
end Go.Proofs.YtgodfnboklbiiacGreatDoor
namespace Go.Proofs.YtgodfnboklbiiacGreatDoor
open Go.Tp
set_option maxRecDepth 100000

def isTick : Dat → Bool
  | .agg [.flat (.int .i64 (.ofNat a)), .flat (.int .i64 (.ofNat 0)), .flat (.int .i64 (.ofNat 0)), .flat (.int .i64 (.ofNat 0)), .flat (.int .i64 (.ofNat 0)), .flat (.string ⟨⟨[]⟩⟩), .flat (.slice none 0 0), .flat (.int .i64 (.ofNat 0)), .flat (.string ⟨⟨[]⟩⟩),
      .flat (.int .i64 (.ofNat 0)), .flat (.slice none 0 0), .flat (.int .i64 (.ofNat 0)), .flat (.int .i64 (.ofNat 0)), .flat (.string ⟨⟨[]⟩⟩), .flat (.slice none 0 0)] => Nat.beq a 14
  | _ => false
theorem isTick_eq {d : Dat} (h : isTick d = true) : d = instrD 14 := by
  unfold isTick at h
  split at h
  · rename_i a
    obtain rfl := Nat.eq_of_beq_eq_true h
    rfl
  · simp at h
def codeOf : AVal → Option (List Dat)
  | .dat (.agg [.flat (.int .i64 (.ofNat 0)), .flat (.int .i64 (.ofNat a)), .slice es, .flat (.slice none 0 0)]) => (match Nat.beq a 1 with | true => some es | false => none)
  | _ => none
theorem codeOf_eq {c : AVal} {es : List Dat} (h : codeOf c = some es) : c = codeA es := by
  unfold codeOf at h
  split at h
  · rename_i a es'
    split at h
    · rename_i hb
      obtain rfl := Nat.eq_of_beq_eq_true hb
      simp at h
      subst h
      rfl
    · simp at h
  · simp at h

def knownL : XCalls := fun g args heap next =>
  match g, args, heap, next with
  | 17, [.dat (.flat (.int .i64 (.ofNat a)))], heap, next => (match Nat.beq a 14 with | true => some ⟨shape14, heap, next⟩ | false => none)
  | 16, [c, .dat x], [], 0 => (match isTick x with
    | true => (match codeOf c with | some _ => some ⟨bv true, [], 0⟩ | none => none)
    | false => none)
  | _, _, _, _ => none
theorem knownL_ok : XOk Tryz.prog xglobs knownL := by
  intro f args heap next r h
  unfold knownL at h
  split at h
  · rename_i a
    split at h
    · rename_i hb
      obtain rfl := Nat.eq_of_beq_eq_true hb
      simp at h
      subst h
      exact c_sh14 _ _
    · simp at h
  · rename_i c x
    split at h
    · rename_i hx
      obtain rfl := isTick_eq hx
      split at h
      · rename_i es hc
        obtain rfl := codeOf_eq hc
        simp at h
        subst h
        exact c_vi14 es
      · simp at h
    · simp at h
  · simp at h
noncomputable def XL : XCalls := fun g args heap next => match knownL g args heap next with | some r => some r | none => X g args heap next
theorem XL_ok : XOk Tryz.prog xglobs XL := by
  intro f args heap next r h
  unfold XL at h
  split at h
  · rename_i r' hr'
    simp at h
    subst h
    exact knownL_ok _ _ _ _ _ hr'
  · exact X_ok f args heap next r h

noncomputable def rl18 (c : Code) (f : FState) : Option (Exit × FState) := fcode XL (env Prims.fast) xglobs ⟨xmoves, ord18, xcaps, rowsOf xcaps 18⟩ 135 live18 3000 c f
noncomputable def code10 : Code := match Tryz.f10.body with | some c => c | none => .skip
def reps (v : AVal) : Nat → List AVal → List AVal
  | 0, l => l
  | n + 1, l => v :: reps v n l
def shapeC : List AVal := [.dat (strD [116, 105, 99, 107]), .dat (bD false), .dat (bD false), .dat (bD false), .dat (bD false), .dat (bD false), .dat (bD false), .dat (bD false), .dat (bD false), .dat (bD true), .dat (bD false), .dat (bD false)]
end Go.Proofs.YtgodfnboklbiiacGreatDoor
