/- The table of functions, for code that is run to its end. Made by genx2.py. -/
import Derived.Test.YteanmfacikjjhaaGreatDoorEnv
import Derived.Test.YteanmfacikjjhaaGreatDoorTpFrun2
namespace Go.Proofs.YteanmfacikjjhaaGreatDoor
open Go.Tp
set_option maxRecDepth 100000

def xmoves : FuncId → Bool := fun f => match f with | 172 => true | _ => false
def xcaps : FuncId → Bool := fun f => match f with | 144 => true | 1000023 => true | 1000033 => true | 1000105 => true | 1000115 => true | 1000136 => true | 2000163 => true | 3000018 => true | 3000020 => true | 3000030 => true | 3000031 => true | 3000046 => true | 3000048 => true | 3000115 => true | 3000177 => true | _ => false
def ord2 : Nat → RHint := fun _ => default
def live2 : Nat → Nat := fun n => match n with | 0 => 0 | _ => 0
theorem fok2 : fnOkX Tryz.prog xmoves xcaps 2 Tryz.f2 ord2 := fnOkX_mk Tryz.func2 (by kernel_rfl)
def ord3 : Nat → RHint := fun n => match n with | 12 => ⟨[(0, false), (1, false), (2, false), (4, false), (5, false), (3, true), (6, true), (7, true), (8, false), (9, false), (10, false), (11, true), (12, false), (13, false), (14, false), (15, false), (16, false), (17, false), (18, true), (19, false), (20, false), (21, false), (22, false), (23, false), (24, false), (25, true), (26, false), (27, false)], none, [], []⟩ | _ => default
def live3 : Nat → Nat := fun n => match n with | 0 => 1 | 1 => 9 | 2 => 32777 | 3 => 4 | 4 => 25 | 5 => 57 | 6 => 131129 | 7 => 57 | 8 => 121 | 9 => 121 | 10 => 57 | 11 => 153 | 12 => 1152921504606846985 | 13 => 4 | 14 => 9223372036854775817 | 15 => 265 | 16 => 37778931862957161709577 | 17 => 4 | 18 => 4 | _ => 0
theorem fok3 : fnOkX Tryz.prog xmoves xcaps 3 Tryz.f3 ord3 := fnOkX_mk Tryz.func3 (by kernel_rfl)
def ord4 : Nat → RHint := fun n => match n with | 5 => ⟨[(0, false), (1, false), (2, false), (3, false), (4, false), (5, false), (6, false), (7, false), (8, false), (9, false), (10, false)], none, [], [11]⟩ | 7 => ⟨[(0, false), (1, false), (2, false), (3, false), (4, false), (5, false), (6, false), (7, false), (8, true)], none, [], [9]⟩ | _ => default
def live4 : Nat → Nat := fun n => match n with | 0 => 1 | 1 => 9 | 2 => 114696 | 3 => 245768 | 4 => 114728 | 5 => 114856 | 6 => 2147598376 | 7 => 114696 | 8 => 114696 | 9 => 4 | _ => 0
theorem fok4 : fnOkX Tryz.prog xmoves xcaps 4 Tryz.f4 ord4 := fnOkX_mk Tryz.func4 (by kernel_rfl)
def ord5 : Nat → RHint := fun _ => default
def live5 : Nat → Nat := fun n => match n with | 0 => 0 | 1 => 2 | 2 => 134217730 | 3 => 1 | 4 => 14 | 5 => 1 | _ => 0
theorem fok5 : fnOkX Tryz.prog xmoves xcaps 5 Tryz.f5 ord5 := fnOkX_mk Tryz.func5 (by kernel_rfl)
def ord6 : Nat → RHint := fun _ => default
def live6 : Nat → Nat := fun n => match n with | 0 => 22 | 1 => 16 | _ => 0
theorem fok6 : fnOkX Tryz.prog xmoves xcaps 6 Tryz.f6 ord6 := fnOkX_mk Tryz.func6 (by kernel_rfl)
def ord7 : Nat → RHint := fun _ => default
def live7 : Nat → Nat := fun n => match n with | 0 => 19 | 1 => 16 | _ => 0
theorem fok7 : fnOkX Tryz.prog xmoves xcaps 7 Tryz.f7 ord7 := fnOkX_mk Tryz.func7 (by kernel_rfl)
def ord8 : Nat → RHint := fun _ => default
def live8 : Nat → Nat := fun n => match n with | 0 => 1 | 1 => 17 | 2 => 4 | 3 => 4 | _ => 0
theorem fok8 : fnOkX Tryz.prog xmoves xcaps 8 Tryz.f8 ord8 := fnOkX_mk Tryz.func8 (by kernel_rfl)
def ord9 : Nat → RHint := fun n => match n with | 3 => ⟨[(0, false), (1, false), (2, false), (3, false), (5, false), (6, false), (7, false), (8, false), (9, false), (10, false), (11, false), (12, false), (13, false), (4, true), (14, false)], none, [], [15, 16]⟩ | 14 => ⟨[(0, false), (1, false), (2, false), (3, false), (4, false), (5, false)], none, [], [6]⟩ | 16 => ⟨[(0, false), (1, false), (2, false), (3, false), (4, false), (5, false), (6, false), (7, false), (8, false), (9, false), (10, false), (11, false), (12, false), (13, false), (14, false), (15, false), (16, false), (17, false), (18, false), (19, true), (20, false), (21, false), (22, false), (23, true), (24, false), (25, false), (26, false), (27, true)], none, [], []⟩ | _ => default
def live9 : Nat → Nat := fun n => match n with | 0 => 3 | 1 => 32771 | 2 => 16 | 3 => 35 | 4 => 30064771105 | 5 => 64424509473 | 6 => 30064771233 | 7 => 30064771361 | 8 => 4428111282465 | 9 => 16 | 10 => 30064771105 | 11 => 7881299347898401 | 12 => 16888498602639393 | 13 => 7881299347899425 | 14 => 7881299347898401 | 15 => 7881299347898401 | 16 => 0 | 17 => 16 | _ => 0
theorem fok9 : fnOkX Tryz.prog xmoves xcaps 9 Tryz.f9 ord9 := fnOkX_mk Tryz.func9 (by kernel_rfl)
def ord10 : Nat → RHint := fun _ => default
def live10 : Nat → Nat := fun n => match n with | 0 => 1 | 1 => 9 | 2 => 7176 | 3 => 15368 | 4 => 7208 | 5 => 7176 | 6 => 7176 | 7 => 4 | _ => 0
theorem fok10 : fnOkX Tryz.prog xmoves xcaps 10 Tryz.f10 ord10 := fnOkX_mk Tryz.func10 (by kernel_rfl)
def ord11 : Nat → RHint := fun _ => default
def live11 : Nat → Nat := fun n => match n with | 0 => 1 | 1 => 4 | _ => 0
theorem fok11 : fnOkX Tryz.prog xmoves xcaps 11 Tryz.f11 ord11 := fnOkX_mk Tryz.func11 (by kernel_rfl)
def ord12 : Nat → RHint := fun _ => default
def live12 : Nat → Nat := fun n => match n with | 0 => 0 | 1 => 2 | 2 => 898 | 3 => 1922 | 4 => 906 | 5 => 898 | 6 => 898 | 7 => 1 | _ => 0
theorem fok12 : fnOkX Tryz.prog xmoves xcaps 12 Tryz.f12 ord12 := fnOkX_mk Tryz.func12 (by kernel_rfl)
def ord13 : Nat → RHint := fun n => match n with | 5 => ⟨[(0, false), (1, false), (3, false), (4, false), (6, false), (7, false), (2, true), (9, false), (5, true), (8, true)], none, [], [10, 11, 12, 13, 14]⟩ | _ => default
def live13 : Nat → Nat := fun n => match n with | 0 => 1 | 1 => 9 | 2 => 456 | 3 => 968 | 4 => 488 | 5 => 488 | 6 => 456 | 7 => 456 | 8 => 4 | _ => 0
theorem fok13 : fnOkX Tryz.prog xmoves xcaps 13 Tryz.f13 ord13 := fnOkX_mk Tryz.func13 (by kernel_rfl)
def ord14 : Nat → RHint := fun _ => default
def live14 : Nat → Nat := fun n => match n with | 0 => 7 | 1 => 135 | 2 => 114823 | 3 => 245895 | 4 => 115335 | 5 => 8590049927 | 6 => 114823 | 7 => 114823 | 8 => 64 | _ => 0
theorem fok14 : fnOkX Tryz.prog xmoves xcaps 14 Tryz.f14 ord14 := fnOkX_mk Tryz.func14 (by kernel_rfl)
def ord15 : Nat → RHint := fun _ => default
def live15 : Nat → Nat := fun n => match n with | 0 => 5 | 1 => 4 | _ => 0
theorem fok15 : fnOkX Tryz.prog xmoves xcaps 15 Tryz.f15 ord15 := fnOkX_mk Tryz.func15 (by kernel_rfl)
def ord16 : Nat → RHint := fun _ => default
def live16 : Nat → Nat := fun n => match n with | 0 => 19 | 1 => 16 | _ => 0
theorem fok16 : fnOkX Tryz.prog xmoves xcaps 16 Tryz.f16 ord16 := fnOkX_mk Tryz.func16 (by kernel_rfl)
def ord17 : Nat → RHint := fun _ => default
def live17 : Nat → Nat := fun n => match n with | 0 => 1 | 1 => 9 | 2 => 2057 | 3 => 4 | 4 => 4 | _ => 0
theorem fok17 : fnOkX Tryz.prog xmoves xcaps 17 Tryz.f17 ord17 := fnOkX_mk Tryz.func17 (by kernel_rfl)
def ord18 : Nat → RHint := fun n => match n with | 1 => ⟨[(0, false), (1, false), (3, false), (4, false), (6, false), (7, false), (2, true), (5, true)], none, [], [8, 9, 10]⟩ | _ => default
def live18 : Nat → Nat := fun n => match n with | 0 => 6 | 1 => 4 | _ => 0
theorem fok18 : fnOkX Tryz.prog xmoves xcaps 18 Tryz.f18 ord18 := fnOkX_mk Tryz.func18 (by kernel_rfl)
def ord19 : Nat → RHint := fun _ => default
def live19 : Nat → Nat := fun n => match n with | 0 => 9 | 1 => 73 | 2 => 201 | 3 => 16 | 4 => 8265 | 5 => 16 | 6 => 1048649 | 7 => 16 | 8 => 33554505 | 9 => 16 | 10 => 2147483657 | 11 => 16 | 12 => 16 | _ => 0
theorem fok19 : fnOkX Tryz.prog xmoves xcaps 19 Tryz.f19 ord19 := fnOkX_mk Tryz.func19 (by kernel_rfl)
def ord20 : Nat → RHint := fun _ => default
def live20 : Nat → Nat := fun n => match n with | 0 => 1 | 1 => 9 | 2 => 3592 | 3 => 7688 | 4 => 3624 | 5 => 3592 | 6 => 3592 | 7 => 4 | _ => 0
theorem fok20 : fnOkX Tryz.prog xmoves xcaps 20 Tryz.f20 ord20 := fnOkX_mk Tryz.func20 (by kernel_rfl)
def ord21 : Nat → RHint := fun n => match n with | 14 => ⟨[(0, false), (1, false), (2, true)], none, [], [3]⟩ | _ => default
def live21 : Nat → Nat := fun n => match n with | 0 => 12 | 1 => 108 | 2 => 65644 | 3 => 16 | 4 => 1048684 | 5 => 16 | 6 => 1073741900 | 7 => 16 | 8 => 137438953484 | 9 => 16 | 10 => 549755813900 | 11 => 16 | 12 => 70368744177676 | 13 => 16 | 14 => 12 | 15 => 576460752303423500 | 16 => 0 | 17 => 16 | 18 => 140 | 19 => 151115727451828646838276 | 20 => 0 | 21 => 16 | 22 => 16 | _ => 0
theorem fok21 : fnOkX Tryz.prog xmoves xcaps 21 Tryz.f21 ord21 := fnOkX_mk Tryz.func21 (by kernel_rfl)
def ord22 : Nat → RHint := fun n => match n with | 1 => ⟨[(0, false), (1, false), (3, false), (4, false), (2, true), (6, false), (5, true)], none, [], [7, 8, 9]⟩ | _ => default
def live22 : Nat → Nat := fun n => match n with | 0 => 6 | 1 => 6 | 2 => 4 | _ => 0
theorem fok22 : fnOkX Tryz.prog xmoves xcaps 22 Tryz.f22 ord22 := fnOkX_mk Tryz.func22 (by kernel_rfl)
def ord23 : Nat → RHint := fun n => match n with | 1 => ⟨[(0, false), (1, false), (2, false), (3, false), (4, false), (5, false), (6, false), (7, false), (8, false), (9, false), (10, false)], none, [], [11]⟩ | 2 => ⟨[(0, false), (1, false), (2, false), (3, false), (4, false), (5, false), (6, false)], none, [4], [7, 8, 9, 10]⟩ | _ => default
def live23 : Nat → Nat := fun n => match n with | 0 => 9 | 1 => 9 | 2 => 0 | _ => 0
theorem fok23 : fnOkX Tryz.prog xmoves xcaps 23 Tryz.f23 ord23 := fnOkX_mk Tryz.func23 (by kernel_rfl)
def ord24 : Nat → RHint := fun n => match n with | 7 => ⟨[(0, false), (1, false), (2, false), (3, false), (4, false), (5, false), (6, true), (7, false), (8, false), (9, true), (10, false)], none, [1], [11]⟩ | _ => default
def live24 : Nat → Nat := fun n => match n with | 0 => 6 | 1 => 14 | 2 => 14 | 3 => 14 | 4 => 57356 | 5 => 122892 | 6 => 57388 | 7 => 57356 | 8 => 57356 | 9 => 4 | _ => 0
theorem fok24 : fnOkX Tryz.prog xmoves xcaps 24 Tryz.f24 ord24 := fnOkX_mk Tryz.func24 (by kernel_rfl)
def ord25 : Nat → RHint := fun _ => default
def live25 : Nat → Nat := fun n => match n with | 0 => 6 | 1 => 4 | _ => 0
theorem fok25 : fnOkX Tryz.prog xmoves xcaps 25 Tryz.f25 ord25 := fnOkX_mk Tryz.func25 (by kernel_rfl)
def ord26 : Nat → RHint := fun n => match n with | 5 => ⟨[(0, false), (1, false), (3, false), (4, false), (6, false), (7, false), (2, true), (9, false), (5, true), (8, true)], none, [], [10, 11, 12, 13, 14]⟩ | 11 => ⟨[(0, false), (1, false), (2, false), (3, true), (4, false), (5, true), (6, false)], none, [1], [7]⟩ | _ => default
def live26 : Nat → Nat := fun n => match n with | 0 => 6 | 1 => 14 | 2 => 114702 | 3 => 245774 | 4 => 114734 | 5 => 114734 | 6 => 114702 | 7 => 114702 | 8 => 7696581394444 | 9 => 16492674416652 | 10 => 7696581394572 | 11 => 7696581394444 | 12 => 7696581394444 | 13 => 4 | _ => 0
theorem fok26 : fnOkX Tryz.prog xmoves xcaps 26 Tryz.f26 ord26 := fnOkX_mk Tryz.func26 (by kernel_rfl)
def ord27 : Nat → RHint := fun _ => default
def live27 : Nat → Nat := fun n => match n with | 0 => 3 | 1 => 16 | _ => 0
theorem fok27 : fnOkX Tryz.prog xmoves xcaps 27 Tryz.f27 ord27 := fnOkX_mk Tryz.func27 (by kernel_rfl)
def ord28 : Nat → RHint := fun _ => default
def live28 : Nat → Nat := fun n => match n with | 0 => 6 | 1 => 16 | _ => 0
theorem fok28 : fnOkX Tryz.prog xmoves xcaps 28 Tryz.f28 ord28 := fnOkX_mk Tryz.func28 (by kernel_rfl)
def ord29 : Nat → RHint := fun n => match n with | 1 => ⟨[(0, false), (2, false), (3, false), (4, false), (5, false), (1, true)], none, [], [6, 7, 8, 9]⟩ | _ => default
def live29 : Nat → Nat := fun n => match n with | 0 => 1 | 1 => 4 | _ => 0
theorem fok29 : fnOkX Tryz.prog xmoves xcaps 29 Tryz.f29 ord29 := fnOkX_mk Tryz.func29 (by kernel_rfl)
def ord30 : Nat → RHint := fun _ => default
def live30 : Nat → Nat := fun n => match n with | 0 => 1 | 1 => 17 | 2 => 4 | 3 => 4 | _ => 0
theorem fok30 : fnOkX Tryz.prog xmoves xcaps 30 Tryz.f30 ord30 := fnOkX_mk Tryz.func30 (by kernel_rfl)
def ord31 : Nat → RHint := fun _ => default
def live31 : Nat → Nat := fun n => match n with | 0 => 1 | 1 => 17 | 2 => 4 | 3 => 4 | _ => 0
theorem fok31 : fnOkX Tryz.prog xmoves xcaps 31 Tryz.f31 ord31 := fnOkX_mk Tryz.func31 (by kernel_rfl)
def ord32 : Nat → RHint := fun n => match n with | 1 => ⟨[(1, false), (0, true)], none, [], [2, 3]⟩ | 4 => ⟨[(0, false), (1, false), (2, false), (3, false), (4, false), (5, false), (6, false), (11, false), (7, true), (8, false), (9, false), (10, false)], some 11, [], [12, 13]⟩ | 6 => ⟨[(0, false), (1, false), (2, false), (3, false), (4, false), (5, false), (10, false), (6, true), (7, false), (8, false), (9, false)], some 10, [], [11, 12]⟩ | 17 => ⟨[(0, false), (1, false), (2, false), (3, false), (4, false), (5, false)], none, [], [6, 7]⟩ | _ => default
def live32 : Nat → Nat := fun n => match n with | 0 => 9 | 1 => 41 | 2 => 4194345 | 3 => 16 | 4 => 201 | 5 => 34359738441 | 6 => 832 | 7 => 9007199254741504 | 8 => 512 | 9 => 16 | 10 => 1033 | 11 => 3081 | 12 => 36893488147419106313 | 13 => 16 | 14 => 12289 | 15 => 18889465931478580867073 | 16 => 16 | 17 => 16 | _ => 0
theorem fok32 : fnOkX Tryz.prog xmoves xcaps 32 Tryz.f32 ord32 := fnOkX_mk Tryz.func32 (by kernel_rfl)
def ord33 : Nat → RHint := fun n => match n with | 6 => ⟨[(0, false), (1, false), (2, false), (3, false), (4, false), (5, false), (6, false), (11, false), (7, true), (8, false), (9, false), (10, false)], some 11, [], [12, 13]⟩ | 11 => ⟨[(0, false), (1, false), (2, false), (3, false), (4, false), (5, false), (6, false), (11, false), (7, true), (8, false), (9, false), (10, false)], some 11, [], [12, 13]⟩ | 15 => ⟨[(0, false), (1, false), (2, false), (3, false), (4, false), (5, false), (6, false), (7, false), (8, false), (9, false), (10, false), (11, false), (12, false), (13, false), (14, false), (15, false), (16, false), (17, false)], none, [], [18]⟩ | 20 => ⟨[(0, false), (1, false), (2, false), (3, false), (4, false), (5, false), (6, false), (7, false), (8, false), (9, false), (10, false), (11, false)], none, [], [12]⟩ | 21 => ⟨[(0, false), (1, false), (2, false), (3, false), (4, false), (5, false), (6, false), (7, false), (8, false), (9, false), (10, false), (11, false), (12, false), (13, false), (14, false), (15, false), (16, false), (17, false), (18, false), (19, false), (20, false), (21, false), (22, false), (23, false), (24, false), (25, false)], none, [5], [26, 27, 28, 29, 30]⟩ | _ => default
def live33 : Nat → Nat := fun n => match n with | 0 => 21 | 1 => 8589934613 | 2 => 64 | 3 => 149 | 4 => 274877907093 | 5 => 64 | 6 => 789 | 7 => 4503599627371285 | 8 => 64 | 9 => 288230376151712021 | 10 => 64 | 11 => 1813 | 12 => 2361183241434822608661 | 13 => 64 | 14 => 3349 | 15 => 302231454903657293679893 | 16 => 64 | 17 => 158456325028528675187087904021 | 18 => 64 | 19 => 40564819207303340847894502575381 | 20 => 1301 | 21 => 0 | 22 => 64 | _ => 0
theorem fok33 : fnOkX Tryz.prog xmoves xcaps 33 Tryz.f33 ord33 := fnOkX_mk Tryz.func33 (by kernel_rfl)
def ord34 : Nat → RHint := fun n => match n with | 1 => ⟨[(0, false), (1, false), (2, false), (3, false), (4, false), (5, false), (6, false), (11, false), (7, true), (8, false), (9, false), (10, false)], some 11, [], [12, 13]⟩ | 7 => ⟨[(0, false), (1, false), (2, false), (3, false), (4, false), (5, false), (6, false), (7, false), (8, false), (9, false), (10, false), (11, false)], none, [], [12]⟩ | _ => default
def live34 : Nat → Nat := fun n => match n with | 0 => 9 | 1 => 105 | 2 => 1048681 | 3 => 16 | 4 => 129 | 5 => 268435585 | 6 => 16 | 7 => 0 | 8 => 16 | _ => 0
theorem fok34 : fnOkX Tryz.prog xmoves xcaps 34 Tryz.f34 ord34 := fnOkX_mk Tryz.func34 (by kernel_rfl)
def ord35 : Nat → RHint := fun _ => default
def live35 : Nat → Nat := fun n => match n with | 0 => 3 | 1 => 99 | 2 => 524323 | 3 => 16 | 4 => 4194339 | 5 => 16 | 6 => 7516192771 | 7 => 16106127363 | 8 => 7516193027 | 9 => 7516193539 | 10 => 144955147011 | 11 => 419833053955 | 12 => 7516193283 | 13 => 17599702237955 | 14 => 7516193283 | 15 => 2251807329878531 | 16 => 16 | 17 => 7516192771 | 18 => 0 | 19 => 16 | _ => 0
theorem fok35 : fnOkX Tryz.prog xmoves xcaps 35 Tryz.f35 ord35 := fnOkX_mk Tryz.func35 (by kernel_rfl)
def ord36 : Nat → RHint := fun n => match n with | 7 => ⟨[(0, false), (1, false), (2, false), (3, false), (4, false), (5, false), (6, false), (7, false), (8, false), (9, false), (10, false), (11, false)], none, [], [12]⟩ | _ => default
def live36 : Nat → Nat := fun n => match n with | 0 => 3 | 1 => 16387 | 2 => 16 | 3 => 3670019 | 4 => 7864323 | 5 => 3670115 | 6 => 17183539235 | 7 => 3670019 | 8 => 3670019 | 9 => 0 | 10 => 16 | _ => 0
theorem fok36 : fnOkX Tryz.prog xmoves xcaps 36 Tryz.f36 ord36 := fnOkX_mk Tryz.func36 (by kernel_rfl)
def ord37 : Nat → RHint := fun n => match n with | 7 => ⟨[(0, false), (1, false), (2, false), (3, false), (4, false), (5, false), (6, true), (7, false), (8, false), (9, true), (10, false)], none, [1], [11]⟩ | _ => default
def live37 : Nat → Nat := fun n => match n with | 0 => 6 | 1 => 14 | 2 => 14 | 3 => 14 | 4 => 57356 | 5 => 122892 | 6 => 57388 | 7 => 57356 | 8 => 57356 | 9 => 4 | _ => 0
theorem fok37 : fnOkX Tryz.prog xmoves xcaps 37 Tryz.f37 ord37 := fnOkX_mk Tryz.func37 (by kernel_rfl)
def ord38 : Nat → RHint := fun _ => default
def live38 : Nat → Nat := fun n => match n with | 0 => 19 | 1 => 209 | 2 => 262225 | 3 => 48 | 4 => 48 | _ => 0
theorem fok38 : fnOkX Tryz.prog xmoves xcaps 38 Tryz.f38 ord38 := fnOkX_mk Tryz.func38 (by kernel_rfl)
def ord39 : Nat → RHint := fun _ => default
def live39 : Nat → Nat := fun n => match n with | 0 => 2 | 1 => 2147483650 | 2 => 4 | 3 => 562949953421314 | 4 => 4 | 5 => 10 | 6 => 31525197391593482 | 7 => 67553994410557450 | 8 => 31525197391593514 | 9 => 37778963388154553303082 | 10 => 4 | 11 => 31525197391593482 | 12 => 31525197391593482 | 13 => 4 | _ => 0
theorem fok39 : fnOkX Tryz.prog xmoves xcaps 39 Tryz.f39 ord39 := fnOkX_mk Tryz.func39 (by kernel_rfl)
def ord40 : Nat → RHint := fun _ => default
def live40 : Nat → Nat := fun n => match n with | 0 => 12 | 1 => 44 | 2 => 16 | _ => 0
theorem fok40 : fnOkX Tryz.prog xmoves xcaps 40 Tryz.f40 ord40 := fnOkX_mk Tryz.func40 (by kernel_rfl)
def ord41 : Nat → RHint := fun _ => default
def live41 : Nat → Nat := fun n => match n with | 0 => 12 | 1 => 8204 | 2 => 16 | 3 => 16 | _ => 0
theorem fok41 : fnOkX Tryz.prog xmoves xcaps 41 Tryz.f41 ord41 := fnOkX_mk Tryz.func41 (by kernel_rfl)
def ord42 : Nat → RHint := fun _ => default
def live42 : Nat → Nat := fun n => match n with | 0 => 3 | 1 => 16 | _ => 0
theorem fok42 : fnOkX Tryz.prog xmoves xcaps 42 Tryz.f42 ord42 := fnOkX_mk Tryz.func42 (by kernel_rfl)
def ord43 : Nat → RHint := fun _ => default
def live43 : Nat → Nat := fun n => match n with | 0 => 6 | 1 => 8 | _ => 0
theorem fok43 : fnOkX Tryz.prog xmoves xcaps 43 Tryz.f43 ord43 := fnOkX_mk Tryz.func43 (by kernel_rfl)
def ord44 : Nat → RHint := fun n => match n with | 1 => ⟨[(0, false), (1, false), (2, false), (3, false), (4, false), (5, false), (6, false), (7, false), (8, false), (9, false), (10, false), (11, false)], none, [], [12]⟩ | _ => default
def live44 : Nat → Nat := fun n => match n with | 0 => 5 | 1 => 5 | 2 => 0 | _ => 0
theorem fok44 : fnOkX Tryz.prog xmoves xcaps 44 Tryz.f44 ord44 := fnOkX_mk Tryz.func44 (by kernel_rfl)
def ord45 : Nat → RHint := fun _ => default
def live45 : Nat → Nat := fun n => match n with | 0 => 28 | 1 => 16 | _ => 0
theorem fok45 : fnOkX Tryz.prog xmoves xcaps 45 Tryz.f45 ord45 := fnOkX_mk Tryz.func45 (by kernel_rfl)
def ord46 : Nat → RHint := fun _ => default
def live46 : Nat → Nat := fun n => match n with | 0 => 1 | 1 => 17 | 2 => 4 | 3 => 4 | _ => 0
theorem fok46 : fnOkX Tryz.prog xmoves xcaps 46 Tryz.f46 ord46 := fnOkX_mk Tryz.func46 (by kernel_rfl)
def ord47 : Nat → RHint := fun n => match n with | 6 => ⟨[(0, false), (1, false), (2, false), (3, true), (4, false), (5, true), (6, false)], none, [1], [7]⟩ | _ => default
def live47 : Nat → Nat := fun n => match n with | 0 => 6 | 1 => 14 | 2 => 14 | 3 => 3596 | 4 => 7692 | 5 => 3628 | 6 => 3596 | 7 => 3596 | 8 => 4 | _ => 0
theorem fok47 : fnOkX Tryz.prog xmoves xcaps 47 Tryz.f47 ord47 := fnOkX_mk Tryz.func47 (by kernel_rfl)
def ord48 : Nat → RHint := fun _ => default
def live48 : Nat → Nat := fun n => match n with | 0 => 1 | 1 => 17 | 2 => 4 | 3 => 4 | _ => 0
theorem fok48 : fnOkX Tryz.prog xmoves xcaps 48 Tryz.f48 ord48 := fnOkX_mk Tryz.func48 (by kernel_rfl)
def ord50 : Nat → RHint := fun _ => default
def live50 : Nat → Nat := fun n => match n with | 0 => 19 | 1 => 208 | 2 => 48 | _ => 0
theorem fok50 : fnOkX Tryz.prog xmoves xcaps 50 Tryz.f50 ord50 := fnOkX_mk Tryz.func50 (by kernel_rfl)
def ord51 : Nat → RHint := fun _ => default
def live51 : Nat → Nat := fun n => match n with | 0 => 25 | 1 => 217 | 2 => 4194521 | 3 => 48 | 4 => 345 | 5 => 281 | 6 => 281 | 7 => 7516193041 | 8 => 16106127633 | 9 => 7516194065 | 10 => 7516196113 | 11 => 282394103057 | 12 => 7516196113 | 13 => 7516206353 | 14 => 281482492917009 | 15 => 48 | 16 => 7516193041 | 17 => 7516193041 | 18 => 48 | _ => 0
theorem fok51 : fnOkX Tryz.prog xmoves xcaps 51 Tryz.f51 ord51 := fnOkX_mk Tryz.func51 (by kernel_rfl)
def ord52 : Nat → RHint := fun _ => default
def live52 : Nat → Nat := fun n => match n with | 0 => 12 | 1 => 44 | 2 => 16 | _ => 0
theorem fok52 : fnOkX Tryz.prog xmoves xcaps 52 Tryz.f52 ord52 := fnOkX_mk Tryz.func52 (by kernel_rfl)
def ord53 : Nat → RHint := fun _ => default
def live53 : Nat → Nat := fun n => match n with | 0 => 1 | 1 => 4 | _ => 0
theorem fok53 : fnOkX Tryz.prog xmoves xcaps 53 Tryz.f53 ord53 := fnOkX_mk Tryz.func53 (by kernel_rfl)
def ord54 : Nat → RHint := fun _ => default
def live54 : Nat → Nat := fun n => match n with | 0 => 2 | 1 => 4 | _ => 0
theorem fok54 : fnOkX Tryz.prog xmoves xcaps 54 Tryz.f54 ord54 := fnOkX_mk Tryz.func54 (by kernel_rfl)
def ord55 : Nat → RHint := fun _ => default
def live55 : Nat → Nat := fun n => match n with | 0 => 25 | 1 => 89 | 2 => 2137 | 3 => 48 | 4 => 65561 | 5 => 48 | 6 => 2097177 | 7 => 48 | 8 => 153 | 9 => 17179869209 | 10 => 48 | 11 => 401 | 12 => 4398046511377 | 13 => 48 | 14 => 140737488355601 | 15 => 48 | 16 => 272 | 17 => 272 | 18 => 48 | _ => 0
theorem fok55 : fnOkX Tryz.prog xmoves xcaps 55 Tryz.f55 ord55 := fnOkX_mk Tryz.func55 (by kernel_rfl)
def ord56 : Nat → RHint := fun _ => default
def live56 : Nat → Nat := fun n => match n with | 0 => 12 | 1 => 104 | 2 => 16 | _ => 0
theorem fok56 : fnOkX Tryz.prog xmoves xcaps 56 Tryz.f56 ord56 := fnOkX_mk Tryz.func56 (by kernel_rfl)
def ord57 : Nat → RHint := fun _ => default
def live57 : Nat → Nat := fun n => match n with | 0 => 25 | 1 => 81 | 2 => 114769 | 3 => 245841 | 4 => 115153 | 5 => 268550609 | 6 => 116433 | 7 => 137439069905 | 8 => 48 | 9 => 114769 | 10 => 114769 | 11 => 48 | _ => 0
theorem fok57 : fnOkX Tryz.prog xmoves xcaps 57 Tryz.f57 ord57 := fnOkX_mk Tryz.func57 (by kernel_rfl)
def ord58 : Nat → RHint := fun _ => default
def live58 : Nat → Nat := fun n => match n with | 0 => 56 | 1 => 64 | _ => 0
theorem fok58 : fnOkX Tryz.prog xmoves xcaps 58 Tryz.f58 ord58 := fnOkX_mk Tryz.func58 (by kernel_rfl)
def ord59 : Nat → RHint := fun _ => default
def live59 : Nat → Nat := fun n => match n with | 0 => 6 | 1 => 4 | _ => 0
theorem fok59 : fnOkX Tryz.prog xmoves xcaps 59 Tryz.f59 ord59 := fnOkX_mk Tryz.func59 (by kernel_rfl)
def ord60 : Nat → RHint := fun _ => default
def live60 : Nat → Nat := fun n => match n with | 0 => 3 | 1 => 16 | _ => 0
theorem fok60 : fnOkX Tryz.prog xmoves xcaps 60 Tryz.f60 ord60 := fnOkX_mk Tryz.func60 (by kernel_rfl)
def ord61 : Nat → RHint := fun _ => default
def live61 : Nat → Nat := fun n => match n with | 0 => 12 | 1 => 16 | _ => 0
theorem fok61 : fnOkX Tryz.prog xmoves xcaps 61 Tryz.f61 ord61 := fnOkX_mk Tryz.func61 (by kernel_rfl)
def ord62 : Nat → RHint := fun _ => default
def live62 : Nat → Nat := fun n => match n with | 0 => 12 | 1 => 16 | _ => 0
theorem fok62 : fnOkX Tryz.prog xmoves xcaps 62 Tryz.f62 ord62 := fnOkX_mk Tryz.func62 (by kernel_rfl)
def ord63 : Nat → RHint := fun _ => default
def live63 : Nat → Nat := fun n => match n with | 0 => 12 | 1 => 16 | _ => 0
theorem fok63 : fnOkX Tryz.prog xmoves xcaps 63 Tryz.f63 ord63 := fnOkX_mk Tryz.func63 (by kernel_rfl)
def ord64 : Nat → RHint := fun _ => default
def live64 : Nat → Nat := fun n => match n with | 0 => 7 | 1 => 16391 | 2 => 64 | 3 => 229382 | 4 => 491526 | 5 => 229766 | 6 => 230150 | 7 => 1073971206 | 8 => 64 | 9 => 229382 | 10 => 64 | _ => 0
theorem fok64 : fnOkX Tryz.prog xmoves xcaps 64 Tryz.f64 ord64 := fnOkX_mk Tryz.func64 (by kernel_rfl)
def ord65 : Nat → RHint := fun _ => default
def live65 : Nat → Nat := fun n => match n with | 0 => 9 | 1 => 104 | 2 => 16 | _ => 0
theorem fok65 : fnOkX Tryz.prog xmoves xcaps 65 Tryz.f65 ord65 := fnOkX_mk Tryz.func65 (by kernel_rfl)
def ord66 : Nat → RHint := fun _ => default
def live66 : Nat → Nat := fun n => match n with | 0 => 3 | 1 => 16 | _ => 0
theorem fok66 : fnOkX Tryz.prog xmoves xcaps 66 Tryz.f66 ord66 := fnOkX_mk Tryz.func66 (by kernel_rfl)
def ord67 : Nat → RHint := fun _ => default
def live67 : Nat → Nat := fun n => match n with | 0 => 6 | 1 => 8 | _ => 0
theorem fok67 : fnOkX Tryz.prog xmoves xcaps 67 Tryz.f67 ord67 := fnOkX_mk Tryz.func67 (by kernel_rfl)
def ord68 : Nat → RHint := fun _ => default
def live68 : Nat → Nat := fun n => match n with | 0 => 3 | 1 => 387 | 2 => 899 | 3 => 419 | 4 => 65955 | 5 => 16 | 6 => 387 | 7 => 16 | _ => 0
theorem fok68 : fnOkX Tryz.prog xmoves xcaps 68 Tryz.f68 ord68 := fnOkX_mk Tryz.func68 (by kernel_rfl)
def ord69 : Nat → RHint := fun n => match n with | 11 => ⟨[(0, false), (1, false), (2, false), (3, false), (4, false), (5, false), (8, false), (6, true), (7, false), (9, true), (10, false), (11, true), (12, false)], none, [1], [13]⟩ | _ => default
def live69 : Nat → Nat := fun n => match n with | 0 => 78 | 1 => 206 | 2 => 206 | 3 => 65742 | 4 => 974 | 5 => 67109838 | 6 => 64 | 7 => 206 | 8 => 120259084494 | 9 => 257698037966 | 10 => 120259087566 | 11 => 120259084494 | 12 => 120259084494 | 13 => 64 | _ => 0
theorem fok69 : fnOkX Tryz.prog xmoves xcaps 69 Tryz.f69 ord69 := fnOkX_mk Tryz.func69 (by kernel_rfl)
def ord70 : Nat → RHint := fun _ => default
def live70 : Nat → Nat := fun n => match n with | 0 => 7 | 1 => 135 | 2 => 524421 | 3 => 96 | 4 => 96 | _ => 0
theorem fok70 : fnOkX Tryz.prog xmoves xcaps 70 Tryz.f70 ord70 := fnOkX_mk Tryz.func70 (by kernel_rfl)
def ord71 : Nat → RHint := fun _ => default
def live71 : Nat → Nat := fun n => match n with | 0 => 25 | 1 => 16409 | 2 => 48 | 3 => 89 | 4 => 89 | 5 => 3670097 | 6 => 7864401 | 7 => 3670353 | 8 => 3670865 | 9 => 70779729 | 10 => 3670865 | 11 => 3673169 | 12 => 34363411537 | 13 => 48 | 14 => 3670097 | 15 => 3670097 | 16 => 48 | _ => 0
theorem fok71 : fnOkX Tryz.prog xmoves xcaps 71 Tryz.f71 ord71 := fnOkX_mk Tryz.func71 (by kernel_rfl)
def ord72 : Nat → RHint := fun _ => default
def live72 : Nat → Nat := fun n => match n with | 0 => 2 | 1 => 4 | _ => 0
theorem fok72 : fnOkX Tryz.prog xmoves xcaps 72 Tryz.f72 ord72 := fnOkX_mk Tryz.func72 (by kernel_rfl)
def ord73 : Nat → RHint := fun _ => default
def live73 : Nat → Nat := fun n => match n with | 0 => 12 | 1 => 16 | _ => 0
theorem fok73 : fnOkX Tryz.prog xmoves xcaps 73 Tryz.f73 ord73 := fnOkX_mk Tryz.func73 (by kernel_rfl)
def ord74 : Nat → RHint := fun _ => default
def live74 : Nat → Nat := fun n => match n with | 0 => 1 | 1 => 4 | _ => 0
theorem fok74 : fnOkX Tryz.prog xmoves xcaps 74 Tryz.f74 ord74 := fnOkX_mk Tryz.func74 (by kernel_rfl)
def ord75 : Nat → RHint := fun _ => default
def live75 : Nat → Nat := fun n => match n with | 0 => 3 | 1 => 35 | 2 => 547 | 3 => 35 | 4 => 131107 | 5 => 16 | 6 => 16 | _ => 0
theorem fok75 : fnOkX Tryz.prog xmoves xcaps 75 Tryz.f75 ord75 := fnOkX_mk Tryz.func75 (by kernel_rfl)
def ord76 : Nat → RHint := fun _ => default
def live76 : Nat → Nat := fun n => match n with | 0 => 1 | 1 => 4 | _ => 0
theorem fok76 : fnOkX Tryz.prog xmoves xcaps 76 Tryz.f76 ord76 := fnOkX_mk Tryz.func76 (by kernel_rfl)
def ord77 : Nat → RHint := fun _ => default
def live77 : Nat → Nat := fun n => match n with | 0 => 1 | 1 => 4 | _ => 0
theorem fok77 : fnOkX Tryz.prog xmoves xcaps 77 Tryz.f77 ord77 := fnOkX_mk Tryz.func77 (by kernel_rfl)
def ord78 : Nat → RHint := fun _ => default
def live78 : Nat → Nat := fun n => match n with | 0 => 6 | 1 => 16390 | 2 => 16 | 3 => 17179869190 | 4 => 16 | 5 => 1008806316530991110 | 6 => 2161727821137838086 | 7 => 1008806316530991174 | 8 => 74795782611369197574 | 9 => 16 | 10 => 1008806316530991110 | 11 => 134 | 12 => 154742504910672534362390534 | 13 => 16 | 14 => 4332790137498830962146934786 | 15 => 9284550294640352061743431682 | 16 => 4332790137498830962146935810 | 17 => 281631358937424012539550760962 | 18 => 598544008994481362913726562306 | 19 => 281631358937424012539550765058 | 20 => 281631358937424012539550769154 | 21 => 40846450566240764860434053341186 | 22 => 16 | 23 => 281631358937424012539550760962 | 24 => 4332790137498830962146934786 | 25 => 16 | _ => 0
theorem fok78 : fnOkX Tryz.prog xmoves xcaps 78 Tryz.f78 ord78 := fnOkX_mk Tryz.func78 (by kernel_rfl)
def ord79 : Nat → RHint := fun _ => default
def live79 : Nat → Nat := fun n => match n with | 0 => 2 | 1 => 10 | 2 => 4 | 3 => 4096 | 4 => 4 | 5 => 4 | _ => 0
theorem fok79 : fnOkX Tryz.prog xmoves xcaps 79 Tryz.f79 ord79 := fnOkX_mk Tryz.func79 (by kernel_rfl)
def ord80 : Nat → RHint := fun _ => default
def live80 : Nat → Nat := fun n => match n with | 0 => 2 | 1 => 4 | _ => 0
theorem fok80 : fnOkX Tryz.prog xmoves xcaps 80 Tryz.f80 ord80 := fnOkX_mk Tryz.func80 (by kernel_rfl)
def ord81 : Nat → RHint := fun _ => default
def live81 : Nat → Nat := fun n => match n with | 0 => 85 | 1 => 131153 | 2 => 192 | 3 => 337 | 4 => 337 | 5 => 469762385 | 6 => 1006633297 | 7 => 469763921 | 8 => 469768529 | 9 => 4503600097139025 | 10 => 192 | 11 => 469762385 | 12 => 469762385 | 13 => 192 | _ => 0
theorem fok81 : fnOkX Tryz.prog xmoves xcaps 81 Tryz.f81 ord81 := fnOkX_mk Tryz.func81 (by kernel_rfl)
def ord82 : Nat → RHint := fun n => match n with | 15 => ⟨[(1, false), (2, false), (5, false), (6, false), (0, true), (3, true), (4, true)], none, [], [2000000, 7, 8, 9]⟩ | _ => default
def live82 : Nat → Nat := fun n => match n with | 0 => 2 | 1 => 1048578 | 2 => 12 | 3 => 18 | 4 => 112 | 5 => 1073741872 | 6 => 12 | 7 => 176 | 8 => 432 | 9 => 15032385936 | 10 => 32212255120 | 11 => 15032386960 | 12 => 15032387984 | 13 => 4413078899088 | 14 => 12 | 15 => 15032385936 | 16 => 15032385936 | 17 => 18014398509482112 | 18 => 12 | 19 => 12 | _ => 0
theorem fok82 : fnOkX Tryz.prog xmoves xcaps 82 Tryz.f82 ord82 := fnOkX_mk Tryz.func82 (by kernel_rfl)
def ord83 : Nat → RHint := fun n => match n with | 10 => ⟨[(0, false), (1, false), (2, false), (3, true), (4, false), (5, true), (6, false)], none, [1], [7]⟩ | _ => default
def live83 : Nat → Nat := fun n => match n with | 0 => 5 | 1 => 133 | 2 => 389 | 3 => 4 | 4 => 2053 | 5 => 4 | 6 => 13 | 7 => 1835020 | 8 => 3932172 | 9 => 1835052 | 10 => 1835020 | 11 => 1835020 | 12 => 4 | _ => 0
theorem fok83 : fnOkX Tryz.prog xmoves xcaps 83 Tryz.f83 ord83 := fnOkX_mk Tryz.func83 (by kernel_rfl)
def ord84 : Nat → RHint := fun n => match n with | 4 => ⟨[(0, false), (1, false), (2, false), (3, false), (4, false), (5, false), (6, true)], none, [], [7]⟩ | _ => default
def live84 : Nat → Nat := fun n => match n with | 0 => 3 | 1 => 35 | 2 => 1059 | 3 => 99 | 4 => 16777315 | 5 => 35 | 6 => 35 | 7 => 16 | _ => 0
theorem fok84 : fnOkX Tryz.prog xmoves xcaps 84 Tryz.f84 ord84 := fnOkX_mk Tryz.func84 (by kernel_rfl)
def ord85 : Nat → RHint := fun _ => default
def live85 : Nat → Nat := fun n => match n with | 0 => 0 | _ => 0
theorem fok85 : fnOkX Tryz.prog xmoves xcaps 85 Tryz.f85 ord85 := fnOkX_mk Tryz.func85 (by kernel_rfl)
def ord86 : Nat → RHint := fun n => match n with | 1 => ⟨[(0, false), (2, false), (1, true)], none, [], [3, 4, 5]⟩ | _ => default
def live86 : Nat → Nat := fun n => match n with | 0 => 12 | 1 => 16 | _ => 0
theorem fok86 : fnOkX Tryz.prog xmoves xcaps 86 Tryz.f86 ord86 := fnOkX_mk Tryz.func86 (by kernel_rfl)
def ord87 : Nat → RHint := fun n => match n with | 1 => ⟨[(0, false), (1, false), (2, false), (3, false), (5, false), (6, false), (7, false), (8, false), (10, false), (11, false), (12, false), (13, false), (15, false), (16, false), (17, false), (18, false), (19, false), (20, false), (4, true), (9, true), (14, true)], none, [], [21, 22, 23, 24]⟩ | 5 => ⟨[(0, false), (1, false), (2, false), (3, false), (4, false), (5, false), (6, false), (7, false), (8, false), (9, false)], none, [], [10, 11]⟩ | _ => default
def live87 : Nat → Nat := fun n => match n with | 0 => 12 | 1 => 44 | 2 => 108 | 3 => 549755813996 | 4 => 108 | 5 => 108 | 6 => 16 | _ => 0
theorem fok87 : fnOkX Tryz.prog xmoves xcaps 87 Tryz.f87 ord87 := fnOkX_mk Tryz.func87 (by kernel_rfl)
def ord88 : Nat → RHint := fun n => match n with | 5 => ⟨[(0, false), (2, false), (1, true), (3, false), (4, false)], none, [], [5]⟩ | _ => default
def live88 : Nat → Nat := fun n => match n with | 0 => 6 | 1 => 14 | 2 => 22 | 3 => 65556 | 6 => 4 | _ => 0
theorem fok88 : fnOkX Tryz.prog xmoves xcaps 88 Tryz.f88 ord88 := fnOkX_mk Tryz.func88 (by kernel_rfl)
def ord89 : Nat → RHint := fun _ => default
def live89 : Nat → Nat := fun n => match n with | 0 => 3 | 1 => 16 | _ => 0
theorem fok89 : fnOkX Tryz.prog xmoves xcaps 89 Tryz.f89 ord89 := fnOkX_mk Tryz.func89 (by kernel_rfl)
def ord90 : Nat → RHint := fun _ => default
def live90 : Nat → Nat := fun n => match n with | 0 => 6 | 1 => 8 | _ => 0
theorem fok90 : fnOkX Tryz.prog xmoves xcaps 90 Tryz.f90 ord90 := fnOkX_mk Tryz.func90 (by kernel_rfl)
def ord91 : Nat → RHint := fun _ => default
def live91 : Nat → Nat := fun n => match n with | 0 => 3 | 1 => 387 | 2 => 899 | 3 => 419 | 4 => 65955 | 5 => 16 | 6 => 387 | 7 => 16 | _ => 0
theorem fok91 : fnOkX Tryz.prog xmoves xcaps 91 Tryz.f91 ord91 := fnOkX_mk Tryz.func91 (by kernel_rfl)
def ord92 : Nat → RHint := fun n => match n with | 1 => ⟨[(0, false), (1, false), (2, false), (3, false), (4, false), (5, false), (6, false), (7, false), (8, false), (9, false), (10, false), (11, false), (12, false), (13, false), (14, false), (15, false), (16, false), (17, false)], none, [], [18, 19, 20]⟩ | _ => default
def live92 : Nat → Nat := fun n => match n with | 0 => 30 | 1 => 32 | _ => 0
theorem fok92 : fnOkX Tryz.prog xmoves xcaps 92 Tryz.f92 ord92 := fnOkX_mk Tryz.func92 (by kernel_rfl)
def ord93 : Nat → RHint := fun _ => default
def live93 : Nat → Nat := fun n => match n with | 0 => 49 | 1 => 64 | _ => 0
theorem fok93 : fnOkX Tryz.prog xmoves xcaps 93 Tryz.f93 ord93 := fnOkX_mk Tryz.func93 (by kernel_rfl)
def ord94 : Nat → RHint := fun _ => default
def live94 : Nat → Nat := fun n => match n with | 0 => 3 | 1 => 387 | 2 => 899 | 3 => 419 | 4 => 65955 | 5 => 16 | 6 => 387 | 7 => 16 | _ => 0
theorem fok94 : fnOkX Tryz.prog xmoves xcaps 94 Tryz.f94 ord94 := fnOkX_mk Tryz.func94 (by kernel_rfl)
def ord95 : Nat → RHint := fun _ => default
def live95 : Nat → Nat := fun n => match n with | 0 => 2 | 1 => 4 | _ => 0
theorem fok95 : fnOkX Tryz.prog xmoves xcaps 95 Tryz.f95 ord95 := fnOkX_mk Tryz.func95 (by kernel_rfl)
def ord96 : Nat → RHint := fun _ => default
def live96 : Nat → Nat := fun n => match n with | 0 => 3 | 1 => 16 | _ => 0
theorem fok96 : fnOkX Tryz.prog xmoves xcaps 96 Tryz.f96 ord96 := fnOkX_mk Tryz.func96 (by kernel_rfl)
def ord97 : Nat → RHint := fun _ => default
def live97 : Nat → Nat := fun n => match n with | 0 => 2 | 1 => 10 | 2 => 8 | 3 => 4 | _ => 0
theorem fok97 : fnOkX Tryz.prog xmoves xcaps 97 Tryz.f97 ord97 := fnOkX_mk Tryz.func97 (by kernel_rfl)
def ord98 : Nat → RHint := fun _ => default
def live98 : Nat → Nat := fun n => match n with | 0 => 3 | 1 => 8 | _ => 0
theorem fok98 : fnOkX Tryz.prog xmoves xcaps 98 Tryz.f98 ord98 := fnOkX_mk Tryz.func98 (by kernel_rfl)
def ord99 : Nat → RHint := fun _ => default
def live99 : Nat → Nat := fun n => match n with | 0 => 3 | 1 => 387 | 2 => 899 | 3 => 419 | 4 => 65955 | 5 => 16 | 6 => 387 | 7 => 16 | _ => 0
theorem fok99 : fnOkX Tryz.prog xmoves xcaps 99 Tryz.f99 ord99 := fnOkX_mk Tryz.func99 (by kernel_rfl)
def ord100 : Nat → RHint := fun n => match n with | 6 => ⟨[(0, false), (1, false), (2, false), (3, true), (4, false), (5, true), (6, false)], none, [1], [7]⟩ | _ => default
def live100 : Nat → Nat := fun n => match n with | 0 => 6 | 1 => 14 | 2 => 14 | 3 => 3596 | 4 => 7692 | 5 => 3628 | 6 => 3596 | 7 => 3596 | 8 => 4 | _ => 0
theorem fok100 : fnOkX Tryz.prog xmoves xcaps 100 Tryz.f100 ord100 := fnOkX_mk Tryz.func100 (by kernel_rfl)
def ord101 : Nat → RHint := fun _ => default
def live101 : Nat → Nat := fun n => match n with | 0 => 6 | 1 => 2048 | 2 => 16 | 3 => 16 | _ => 0
theorem fok101 : fnOkX Tryz.prog xmoves xcaps 101 Tryz.f101 ord101 := fnOkX_mk Tryz.func101 (by kernel_rfl)
def ord102 : Nat → RHint := fun _ => default
def live102 : Nat → Nat := fun n => match n with | 0 => 1 | 1 => 4 | _ => 0
theorem fok102 : fnOkX Tryz.prog xmoves xcaps 102 Tryz.f102 ord102 := fnOkX_mk Tryz.func102 (by kernel_rfl)
def ord103 : Nat → RHint := fun _ => default
def live103 : Nat → Nat := fun n => match n with | 0 => 12 | 1 => 108 | 2 => 8232 | 3 => 16 | 4 => 536870952 | 5 => 16 | 6 => 281474976710696 | 7 => 16 | 8 => 16 | _ => 0
theorem fok103 : fnOkX Tryz.prog xmoves xcaps 103 Tryz.f103 ord103 := fnOkX_mk Tryz.func103 (by kernel_rfl)
def ord104 : Nat → RHint := fun _ => default
def live104 : Nat → Nat := fun n => match n with | 0 => 5 | 1 => 21 | 2 => 8589934613 | 3 => 12 | 4 => 12 | _ => 0
theorem fok104 : fnOkX Tryz.prog xmoves xcaps 104 Tryz.f104 ord104 := fnOkX_mk Tryz.func104 (by kernel_rfl)
def ord105 : Nat → RHint := fun n => match n with | 8 => ⟨[(0, false), (1, false), (2, false), (3, false), (4, false), (5, false), (6, false), (7, false), (8, false), (13, false), (9, true), (10, false), (11, false), (12, false)], some 13, [], [14, 15]⟩ | 13 => ⟨[(0, false), (1, false), (2, false), (3, false), (4, false)], none, [], [5, 6]⟩ | _ => default
def live105 : Nat → Nat := fun n => match n with | 0 => 2 | 1 => 10 | 2 => 393226 | 3 => 917514 | 4 => 393242 | 5 => 393258 | 6 => 67502122 | 7 => 393322 | 8 => 393450 | 9 => 9223372036855169130 | 10 => 393258 | 11 => 393258 | 12 => 393322 | 13 => 393834 | 14 => 9903520314283042199193387626 | 15 => 393258 | 16 => 393258 | 17 => 394346 | 18 => 394282 | 19 => 10633823966279326983230456482243150890 | 20 => 4 | 21 => 340282366920938463463374607431768605738 | 22 => 393258 | 23 => 393226 | 24 => 4 | _ => 0
theorem fok105 : fnOkX Tryz.prog xmoves xcaps 105 Tryz.f105 ord105 := fnOkX_mk Tryz.func105 (by kernel_rfl)
def ord106 : Nat → RHint := fun _ => default
def live106 : Nat → Nat := fun n => match n with | 0 => 6 | 1 => 38 | 2 => 16 | 3 => 16390 | 4 => 16 | 5 => 16777222 | 6 => 16 | 7 => 16 | _ => 0
theorem fok106 : fnOkX Tryz.prog xmoves xcaps 106 Tryz.f106 ord106 := fnOkX_mk Tryz.func106 (by kernel_rfl)
def ord107 : Nat → RHint := fun _ => default
def live107 : Nat → Nat := fun n => match n with | 0 => 2 | 1 => 10 | 2 => 904 | 3 => 1928 | 4 => 936 | 5 => 904 | 6 => 904 | 7 => 4 | _ => 0
theorem fok107 : fnOkX Tryz.prog xmoves xcaps 107 Tryz.f107 ord107 := fnOkX_mk Tryz.func107 (by kernel_rfl)
def ord108 : Nat → RHint := fun _ => default
def live108 : Nat → Nat := fun n => match n with | 0 => 2 | 1 => 10 | 2 => 904 | 3 => 1928 | 4 => 936 | 5 => 904 | 6 => 904 | 7 => 4 | _ => 0
theorem fok108 : fnOkX Tryz.prog xmoves xcaps 108 Tryz.f108 ord108 := fnOkX_mk Tryz.func108 (by kernel_rfl)
def ord109 : Nat → RHint := fun _ => default
def live109 : Nat → Nat := fun n => match n with | 0 => 2 | 1 => 4 | _ => 0
theorem fok109 : fnOkX Tryz.prog xmoves xcaps 109 Tryz.f109 ord109 := fnOkX_mk Tryz.func109 (by kernel_rfl)
def ord110 : Nat → RHint := fun n => match n with | 18 => ⟨[], some 999999, [], []⟩ | 19 => ⟨[(0, false), (1, false), (2, false), (3, false), (4, false), (5, false), (6, true), (7, true), (8, true), (9, false), (10, false), (11, false), (12, false)], none, [], [13]⟩ | _ => default
def live110 : Nat → Nat := fun n => match n with | 0 => 9 | 1 => 73 | 2 => 201 | 3 => 16585 | 4 => 49353 | 5 => 49353 | 6 => 193 | 7 => 1065161 | 8 => 58720449 | 9 => 125829313 | 10 => 58720961 | 11 => 58723521 | 12 => 58720449 | 13 => 58720449 | 14 => 8796093038793 | 15 => 193 | 16 => 4503599627370697 | 17 => 4105 | 18 => 4105 | 19 => 4289 | 20 => 38685626227668133590601921 | 21 => 193 | 22 => 10141204801825835211973625643072 | 23 => 48 | 24 => 48 | _ => 0
theorem fok110 : fnOkX Tryz.prog xmoves xcaps 110 Tryz.f110 ord110 := fnOkX_mk Tryz.func110 (by kernel_rfl)
def ord111 : Nat → RHint := fun n => match n with | 8 => ⟨[(0, false), (1, false), (2, false), (3, false), (4, false), (5, false), (6, false), (7, false), (8, false), (9, true), (10, false), (11, true), (12, false)], none, [1], [13]⟩ | _ => default
def live111 : Nat → Nat := fun n => match n with | 0 => 28 | 1 => 60 | 2 => 124 | 3 => 124 | 4 => 180 | 5 => 229524 | 6 => 491668 | 7 => 230036 | 8 => 229524 | 9 => 229524 | 10 => 16 | _ => 0
theorem fok111 : fnOkX Tryz.prog xmoves xcaps 111 Tryz.f111 ord111 := fnOkX_mk Tryz.func111 (by kernel_rfl)
def ord112 : Nat → RHint := fun _ => default
def live112 : Nat → Nat := fun n => match n with | 0 => 2 | 1 => 4 | _ => 0
theorem fok112 : fnOkX Tryz.prog xmoves xcaps 112 Tryz.f112 ord112 := fnOkX_mk Tryz.func112 (by kernel_rfl)
def ord113 : Nat → RHint := fun _ => default
def live113 : Nat → Nat := fun n => match n with | 0 => 1 | 1 => 9 | 2 => 1800 | 3 => 3848 | 4 => 1832 | 5 => 67368 | 6 => 1832 | 7 => 1992 | 8 => 4294969096 | 9 => 4 | 10 => 1800 | 11 => 4 | _ => 0
theorem fok113 : fnOkX Tryz.prog xmoves xcaps 113 Tryz.f113 ord113 := fnOkX_mk Tryz.func113 (by kernel_rfl)
def ord114 : Nat → RHint := fun n => match n with | 5 => ⟨[(0, false), (1, false), (2, false), (3, false), (4, false), (5, false)], none, [], [6, 7]⟩ | _ => default
def live114 : Nat → Nat := fun n => match n with | 0 => 7 | 1 => 7 | 2 => 65543 | 3 => 64 | 4 => 135 | 5 => 129 | 6 => 1 | 7 => 64 | _ => 0
theorem fok114 : fnOkX Tryz.prog xmoves xcaps 114 Tryz.f114 ord114 := fnOkX_mk Tryz.func114 (by kernel_rfl)
def ord115 : Nat → RHint := fun _ => default
def live115 : Nat → Nat := fun n => match n with | 0 => 1 | 1 => 17 | 2 => 4 | 3 => 4 | _ => 0
theorem fok115 : fnOkX Tryz.prog xmoves xcaps 115 Tryz.f115 ord115 := fnOkX_mk Tryz.func115 (by kernel_rfl)
def ord116 : Nat → RHint := fun _ => default
def live116 : Nat → Nat := fun n => match n with | 0 => 49 | 1 => 64 | _ => 0
theorem fok116 : fnOkX Tryz.prog xmoves xcaps 116 Tryz.f116 ord116 := fnOkX_mk Tryz.func116 (by kernel_rfl)
def ord117 : Nat → RHint := fun _ => default
def live117 : Nat → Nat := fun n => match n with | 0 => 71 | 1 => 455 | 2 => 8647 | 3 => 327 | 4 => 455 | 5 => 455 | 6 => 71 | 7 => 1073741895 | 8 => 455 | 9 => 34359738823 | 10 => 327 | 11 => 455 | 12 => 455 | 13 => 711 | 14 => 18014398509482695 | 15 => 71 | 16 => 71 | _ => 0
theorem fok117 : fnOkX Tryz.prog xmoves xcaps 117 Tryz.f117 ord117 := fnOkX_mk Tryz.func117 (by kernel_rfl)
def ord118 : Nat → RHint := fun _ => default
def live118 : Nat → Nat := fun n => match n with | 0 => 1 | 1 => 9 | 2 => 456 | 3 => 968 | 4 => 488 | 5 => 16872 | 6 => 4 | 7 => 456 | 8 => 4 | _ => 0
theorem fok118 : fnOkX Tryz.prog xmoves xcaps 118 Tryz.f118 ord118 := fnOkX_mk Tryz.func118 (by kernel_rfl)
def ord119 : Nat → RHint := fun _ => default
def live119 : Nat → Nat := fun n => match n with | 0 => 3 | 1 => 35 | 2 => 99 | 3 => 2115 | 4 => 4096 | 5 => 16 | 6 => 16 | 7 => 8195 | 8 => 16 | 9 => 65539 | 10 => 16 | 11 => 524288 | 12 => 16 | 13 => 16 | _ => 0
theorem fok119 : fnOkX Tryz.prog xmoves xcaps 119 Tryz.f119 ord119 := fnOkX_mk Tryz.func119 (by kernel_rfl)
def ord120 : Nat → RHint := fun _ => default
def live120 : Nat → Nat := fun n => match n with | 0 => 3 | 1 => 35 | 2 => 99 | 3 => 2115 | 4 => 4096 | 5 => 16 | 6 => 16 | 7 => 8195 | 8 => 16 | 9 => 65539 | 10 => 16 | 11 => 524288 | 12 => 16 | 13 => 16 | _ => 0
theorem fok120 : fnOkX Tryz.prog xmoves xcaps 120 Tryz.f120 ord120 := fnOkX_mk Tryz.func120 (by kernel_rfl)
def ord121 : Nat → RHint := fun n => match n with | 10 => ⟨[(0, false), (1, false), (2, false), (3, false), (4, false), (5, false), (6, false), (7, false), (8, false), (9, false), (10, true), (11, false), (12, true), (13, false)], none, [1], [14]⟩ | _ => default
def live121 : Nat → Nat := fun n => match n with | 0 => 78 | 1 => 1102 | 2 => 64 | 3 => 131150 | 4 => 64 | 5 => 206 | 6 => 206 | 7 => 120259084494 | 8 => 257698037966 | 9 => 120259085006 | 10 => 120259084494 | 11 => 120259084494 | 12 => 64 | _ => 0
theorem fok121 : fnOkX Tryz.prog xmoves xcaps 121 Tryz.f121 ord121 := fnOkX_mk Tryz.func121 (by kernel_rfl)
def ord122 : Nat → RHint := fun _ => default
def live122 : Nat → Nat := fun n => match n with | 0 => 14 | 1 => 4110 | 2 => 12 | 3 => 8 | _ => 0
theorem fok122 : fnOkX Tryz.prog xmoves xcaps 122 Tryz.f122 ord122 := fnOkX_mk Tryz.func122 (by kernel_rfl)
def ord123 : Nat → RHint := fun _ => default
def live123 : Nat → Nat := fun n => match n with | 0 => 2 | 1 => 4 | _ => 0
theorem fok123 : fnOkX Tryz.prog xmoves xcaps 123 Tryz.f123 ord123 := fnOkX_mk Tryz.func123 (by kernel_rfl)
def ord124 : Nat → RHint := fun _ => default
def live124 : Nat → Nat := fun n => match n with | 0 => 6 | 1 => 4 | _ => 0
theorem fok124 : fnOkX Tryz.prog xmoves xcaps 124 Tryz.f124 ord124 := fnOkX_mk Tryz.func124 (by kernel_rfl)
def ord125 : Nat → RHint := fun _ => default
def live125 : Nat → Nat := fun n => match n with | 0 => 3 | 1 => 387 | 2 => 899 | 3 => 419 | 4 => 65955 | 5 => 16 | 6 => 387 | 7 => 16 | _ => 0
theorem fok125 : fnOkX Tryz.prog xmoves xcaps 125 Tryz.f125 ord125 := fnOkX_mk Tryz.func125 (by kernel_rfl)
def ord126 : Nat → RHint := fun _ => default
def live126 : Nat → Nat := fun n => match n with | 0 => 49 | 1 => 417 | 2 => 64 | _ => 0
theorem fok126 : fnOkX Tryz.prog xmoves xcaps 126 Tryz.f126 ord126 := fnOkX_mk Tryz.func126 (by kernel_rfl)
def ord127 : Nat → RHint := fun n => match n with | 6 => ⟨[(0, false), (1, false), (2, false), (3, false), (4, true), (5, false)], none, [], [6, 7]⟩ | _ => default
def live127 : Nat → Nat := fun n => match n with | 0 => 6 | 1 => 32774 | 2 => 16 | 3 => 917510 | 4 => 1966086 | 5 => 917606 | 6 => 2148401158 | 7 => 16 | 8 => 917510 | 9 => 16 | _ => 0
theorem fok127 : fnOkX Tryz.prog xmoves xcaps 127 Tryz.f127 ord127 := fnOkX_mk Tryz.func127 (by kernel_rfl)
def ord128 : Nat → RHint := fun _ => default
def live128 : Nat → Nat := fun n => match n with | 0 => 2 | 1 => 4 | _ => 0
theorem fok128 : fnOkX Tryz.prog xmoves xcaps 128 Tryz.f128 ord128 := fnOkX_mk Tryz.func128 (by kernel_rfl)
def ord129 : Nat → RHint := fun _ => default
def live129 : Nat → Nat := fun n => match n with | 0 => 3 | 1 => 387 | 2 => 899 | 3 => 419 | 4 => 65955 | 5 => 16 | 6 => 387 | 7 => 16 | _ => 0
theorem fok129 : fnOkX Tryz.prog xmoves xcaps 129 Tryz.f129 ord129 := fnOkX_mk Tryz.func129 (by kernel_rfl)
def ord130 : Nat → RHint := fun n => match n with | 6 => ⟨[(0, false), (1, false), (2, false), (3, false), (6, false), (4, true), (5, false)], none, [], [7]⟩ | _ => default
def live130 : Nat → Nat := fun n => match n with | 0 => 14 | 1 => 65550 | 2 => 14 | 3 => 117440526 | 4 => 251658254 | 5 => 117440718 | 6 => 117440526 | 7 => 117440526 | _ => 0
theorem fok130 : fnOkX Tryz.prog xmoves xcaps 130 Tryz.f130 ord130 := fnOkX_mk Tryz.func130 (by kernel_rfl)
def ord131 : Nat → RHint := fun _ => default
def live131 : Nat → Nat := fun n => match n with | 0 => 56 | 1 => 176 | 2 => 57520 | 3 => 123056 | 4 => 58032 | 5 => 16834736 | 6 => 64 | 7 => 57520 | 8 => 1200 | 9 => 64 | _ => 0
theorem fok131 : fnOkX Tryz.prog xmoves xcaps 131 Tryz.f131 ord131 := fnOkX_mk Tryz.func131 (by kernel_rfl)
def ord132 : Nat → RHint := fun _ => default
def live132 : Nat → Nat := fun n => match n with | 0 => 12 | 1 => 76 | 2 => 204 | 3 => 204 | 4 => 16 | 5 => 2097228 | 6 => 16 | 7 => 2147483724 | 8 => 16 | 9 => 2199023255628 | 10 => 16 | 11 => 18014398509482056 | 12 => 18014398509481992 | 13 => 16 | 14 => 16 | _ => 0
theorem fok132 : fnOkX Tryz.prog xmoves xcaps 132 Tryz.f132 ord132 := fnOkX_mk Tryz.func132 (by kernel_rfl)
def ord133 : Nat → RHint := fun _ => default
def live133 : Nat → Nat := fun n => match n with | 0 => 2 | 1 => 4 | _ => 0
theorem fok133 : fnOkX Tryz.prog xmoves xcaps 133 Tryz.f133 ord133 := fnOkX_mk Tryz.func133 (by kernel_rfl)
def ord134 : Nat → RHint := fun _ => default
def live134 : Nat → Nat := fun n => match n with | 0 => 2 | 1 => 4 | _ => 0
theorem fok134 : fnOkX Tryz.prog xmoves xcaps 134 Tryz.f134 ord134 := fnOkX_mk Tryz.func134 (by kernel_rfl)
def ord135 : Nat → RHint := fun _ => default
def live135 : Nat → Nat := fun n => match n with | 0 => 2 | 1 => 131074 | 2 => 4 | 3 => 524290 | 4 => 1572866 | 5 => 4 | 6 => 34078722 | 7 => 4 | 8 => 134742018 | 9 => 4 | 10 => 137438953474 | 11 => 10 | 12 => 8796093022218 | 13 => 10 | 14 => 2251799813685258 | 15 => 4 | 16 => 4 | 17 => 4 | _ => 0
theorem fok135 : fnOkX Tryz.prog xmoves xcaps 135 Tryz.f135 ord135 := fnOkX_mk Tryz.func135 (by kernel_rfl)
def ord136 : Nat → RHint := fun _ => default
def live136 : Nat → Nat := fun n => match n with | 0 => 6 | 1 => 38 | 2 => 102 | 3 => 358 | 4 => 1073742178 | 5 => 352 | 6 => 4398046511392 | 7 => 256 | 8 => 256 | 9 => 16 | _ => 0
theorem fok136 : fnOkX Tryz.prog xmoves xcaps 136 Tryz.f136 ord136 := fnOkX_mk Tryz.func136 (by kernel_rfl)
def ord137 : Nat → RHint := fun _ => default
def live137 : Nat → Nat := fun n => match n with | 0 => 2 | 1 => 4 | _ => 0
theorem fok137 : fnOkX Tryz.prog xmoves xcaps 137 Tryz.f137 ord137 := fnOkX_mk Tryz.func137 (by kernel_rfl)
def ord138 : Nat → RHint := fun _ => default
def live138 : Nat → Nat := fun n => match n with | 0 => 2 | 1 => 1048578 | 2 => 4 | 3 => 4194306 | 4 => 12582914 | 5 => 12582914 | 6 => 4 | 7 => 1077936130 | 8 => 4 | 9 => 4503599631564802 | 10 => 4 | 11 => 288230376155906050 | 12 => 4 | 13 => 18446744073713745922 | 14 => 4 | 15 => 1208925819614629174706178 | 16 => 4 | 17 => 4 | _ => 0
theorem fok138 : fnOkX Tryz.prog xmoves xcaps 138 Tryz.f138 ord138 := fnOkX_mk Tryz.func138 (by kernel_rfl)
def ord139 : Nat → RHint := fun _ => default
def live139 : Nat → Nat := fun n => match n with | 0 => 2 | 1 => 4 | _ => 0
theorem fok139 : fnOkX Tryz.prog xmoves xcaps 139 Tryz.f139 ord139 := fnOkX_mk Tryz.func139 (by kernel_rfl)
def ord140 : Nat → RHint := fun _ => default
def live140 : Nat → Nat := fun n => match n with | 0 => 3 | 1 => 67 | 2 => 458817 | 3 => 983105 | 4 => 459073 | 5 => 460353 | 6 => 537330241 | 7 => 48 | 8 => 458817 | 9 => 458817 | 10 => 6144 | 11 => 14336 | 12 => 15393162801152 | 13 => 32985348845568 | 14 => 15393162833920 | 15 => 15393162801152 | 16 => 15393162801152 | 17 => 48 | _ => 0
theorem fok140 : fnOkX Tryz.prog xmoves xcaps 140 Tryz.f140 ord140 := fnOkX_mk Tryz.func140 (by kernel_rfl)
def ord141 : Nat → RHint := fun _ => default
def live141 : Nat → Nat := fun n => match n with | 0 => 28 | 1 => 16 | _ => 0
theorem fok141 : fnOkX Tryz.prog xmoves xcaps 141 Tryz.f141 ord141 := fnOkX_mk Tryz.func141 (by kernel_rfl)
def ord142 : Nat → RHint := fun _ => default
def live142 : Nat → Nat := fun n => match n with | 0 => 5 | 1 => 4 | _ => 0
theorem fok142 : fnOkX Tryz.prog xmoves xcaps 142 Tryz.f142 ord142 := fnOkX_mk Tryz.func142 (by kernel_rfl)
def ord143 : Nat → RHint := fun _ => default
def live143 : Nat → Nat := fun n => match n with | 0 => 7 | 1 => 263 | 2 => 57605 | 3 => 123141 | 4 => 58629 | 5 => 64773 | 6 => 16841989 | 7 => 63749 | 8 => 61701 | 9 => 35184372146437 | 10 => 192 | 11 => 57605 | 12 => 192 | _ => 0
theorem fok143 : fnOkX Tryz.prog xmoves xcaps 143 Tryz.f143 ord143 := fnOkX_mk Tryz.func143 (by kernel_rfl)
def ord144 : Nat → RHint := fun n => match n with | 5 => ⟨[(0, false), (1, false), (2, false), (3, false), (4, false), (5, true)], none, [2], [6, 7]⟩ | 12 => ⟨[(0, false), (1, false), (2, false), (3, false), (4, true), (5, false), (6, true), (7, false)], none, [1], [8]⟩ | _ => default
def live144 : Nat → Nat := fun n => match n with | 0 => 62 | 1 => 254 | 2 => 67108988 | 3 => 356 | 4 => 2147484004 | 5 => 288 | 6 => 32 | 7 => 568 | 8 => 568 | 9 => 61572651156008 | 10 => 131941395333672 | 11 => 61572651158056 | 12 => 61572651156008 | 13 => 61572651156008 | 14 => 32 | _ => 0
theorem fok144 : fnOkX Tryz.prog xmoves xcaps 144 Tryz.f144 ord144 := fnOkX_mk Tryz.func144 (by kernel_rfl)
def ord145 : Nat → RHint := fun n => match n with | 4 => ⟨[(0, false), (1, false), (2, false), (3, false)], none, [], [4]⟩ | _ => default
def live145 : Nat → Nat := fun n => match n with | 0 => 2 | 1 => 1048578 | 2 => 12 | 3 => 48 | 4 => 12 | _ => 0
theorem fok145 : fnOkX Tryz.prog xmoves xcaps 145 Tryz.f145 ord145 := fnOkX_mk Tryz.func145 (by kernel_rfl)
def ord146 : Nat → RHint := fun _ => default
def live146 : Nat → Nat := fun n => match n with | 0 => 3 | 1 => 387 | 2 => 899 | 3 => 419 | 4 => 65955 | 5 => 16 | 6 => 387 | 7 => 16 | _ => 0
theorem fok146 : fnOkX Tryz.prog xmoves xcaps 146 Tryz.f146 ord146 := fnOkX_mk Tryz.func146 (by kernel_rfl)
def ord147 : Nat → RHint := fun _ => default
def live147 : Nat → Nat := fun n => match n with | 0 => 2 | 1 => 10 | 2 => 26 | 3 => 26 | 4 => 8 | 5 => 4 | _ => 0
theorem fok147 : fnOkX Tryz.prog xmoves xcaps 147 Tryz.f147 ord147 := fnOkX_mk Tryz.func147 (by kernel_rfl)
def ord148 : Nat → RHint := fun _ => default
def live148 : Nat → Nat := fun n => match n with | 0 => 6 | 1 => 8 | _ => 0
theorem fok148 : fnOkX Tryz.prog xmoves xcaps 148 Tryz.f148 ord148 := fnOkX_mk Tryz.func148 (by kernel_rfl)
def ord149 : Nat → RHint := fun _ => default
def live149 : Nat → Nat := fun n => match n with | 0 => 42 | 1 => 394 | 2 => 64 | _ => 0
theorem fok149 : fnOkX Tryz.prog xmoves xcaps 149 Tryz.f149 ord149 := fnOkX_mk Tryz.func149 (by kernel_rfl)
def ord150 : Nat → RHint := fun n => match n with | 4 => ⟨[(0, false), (1, false), (2, false), (3, false), (4, false), (5, false), (6, false), (7, false), (8, false), (9, false), (10, false), (11, false), (12, false), (13, false)], none, [], [14, 15, 16]⟩ | 6 => ⟨[], some 999999, [], []⟩ | _ => default
def live150 : Nat → Nat := fun n => match n with | 0 => 271 | 1 => 16655 | 2 => 271 | 3 => 783 | 4 => 17179869967 | 5 => 783 | 6 => 783 | _ => 0
theorem fok150 : fnOkX Tryz.prog xmoves xcaps 150 Tryz.f150 ord150 := fnOkX_mk Tryz.func150 (by kernel_rfl)
def ord151 : Nat → RHint := fun n => match n with | 5 => ⟨[(0, false), (1, false), (2, false), (3, false), (4, false), (5, false), (6, false), (7, false), (8, false)], none, [], [9, 10]⟩ | 11 => ⟨[], some 999999, [], []⟩ | 17 => ⟨[(0, false), (1, false), (2, false), (3, false), (4, false), (5, false), (6, false), (7, false), (8, false)], none, [], [9, 10, 11]⟩ | 23 => ⟨[], some 999999, [], []⟩ | 35 => ⟨[(0, false), (1, false), (2, false), (3, false), (4, false), (5, false), (6, false), (7, false), (8, false), (9, false), (10, false)], none, [], [11, 12, 13]⟩ | _ => default
def live151 : Nat → Nat := fun n => match n with | 0 => 268435487 | 1 => 1051 | 2 => 3091 | 3 => 8589937683 | 4 => 7187 | 5 => 1125899906849811 | 6 => 3091 | 7 => 3091 | 8 => 9217 | 9 => 288230376151720961 | 10 => 9217 | 11 => 9217 | 12 => 1208925819614629174706207 | 13 => 16405 | 14 => 49173 | 15 => 38685626227668133590646805 | 16 => 114709 | 17 => 10141204801825835211973625757717 | 18 => 49173 | 19 => 49173 | 20 => 147457 | 21 => 1298074214633706907132624082452481 | 22 => 147457 | 23 => 147457 | 24 => 262175 | 25 => 786463 | 26 => 786463 | 27 => 1393796574908163946345982392040522594910239 | 28 => 1835039 | 29 => 3932191 | 30 => 1835039 | 31 => 3932191 | 32 => 8126495 | 33 => 2854495385411919762116571938898990272773619743 | 34 => 16515103 | 35 => 2993155353253689176481146537402947624255349864529951 | 36 => 8126495 | 37 => 8126495 | 38 => 18087967 | 39 => 49039857307708443467467104868809893875799651909893357599 | 40 => 18087963 | 41 => 803469022129495137770981046170581301261101496891396435738651 | 42 => 17039385 | 43 => 13164036458569648337239753460458804039861886925068638906805911577 | 44 => 0 | _ => 0
theorem fok151 : fnOkX Tryz.prog xmoves xcaps 151 Tryz.f151 ord151 := fnOkX_mk Tryz.func151 (by kernel_rfl)
def ord152 : Nat → RHint := fun _ => default
def live152 : Nat → Nat := fun n => match n with | 0 => 1 | 1 => 4 | _ => 0
theorem fok152 : fnOkX Tryz.prog xmoves xcaps 152 Tryz.f152 ord152 := fnOkX_mk Tryz.func152 (by kernel_rfl)
def ord153 : Nat → RHint := fun _ => default
def live153 : Nat → Nat := fun n => match n with | 0 => 1 | 1 => 4 | _ => 0
theorem fok153 : fnOkX Tryz.prog xmoves xcaps 153 Tryz.f153 ord153 := fnOkX_mk Tryz.func153 (by kernel_rfl)
def ord154 : Nat → RHint := fun _ => default
def live154 : Nat → Nat := fun n => match n with | 0 => 11 | 1 => 267 | 2 => 11 | 3 => 262155 | _ => 0
theorem fok154 : fnOkX Tryz.prog xmoves xcaps 154 Tryz.f154 ord154 := fnOkX_mk Tryz.func154 (by kernel_rfl)
def ord155 : Nat → RHint := fun _ => default
def live155 : Nat → Nat := fun n => match n with | 0 => 2 | 1 => 4 | _ => 0
theorem fok155 : fnOkX Tryz.prog xmoves xcaps 155 Tryz.f155 ord155 := fnOkX_mk Tryz.func155 (by kernel_rfl)
def ord156 : Nat → RHint := fun _ => default
def live156 : Nat → Nat := fun n => match n with | 0 => 51 | 1 => 65555 | 2 => 0 | _ => 0
theorem fok156 : fnOkX Tryz.prog xmoves xcaps 156 Tryz.f156 ord156 := fnOkX_mk Tryz.func156 (by kernel_rfl)
def ord157 : Nat → RHint := fun _ => default
def live157 : Nat → Nat := fun n => match n with | 0 => 7 | 1 => 32 | _ => 0
theorem fok157 : fnOkX Tryz.prog xmoves xcaps 157 Tryz.f157 ord157 := fnOkX_mk Tryz.func157 (by kernel_rfl)
def ord158 : Nat → RHint := fun _ => default
def live158 : Nat → Nat := fun n => match n with | 0 => 1 | 1 => 4 | _ => 0
theorem fok158 : fnOkX Tryz.prog xmoves xcaps 158 Tryz.f158 ord158 := fnOkX_mk Tryz.func158 (by kernel_rfl)
def ord159 : Nat → RHint := fun _ => default
def live159 : Nat → Nat := fun n => match n with | 0 => 5 | 1 => 0 | _ => 0
theorem fok159 : fnOkX Tryz.prog xmoves xcaps 159 Tryz.f159 ord159 := fnOkX_mk Tryz.func159 (by kernel_rfl)
def ord160 : Nat → RHint := fun n => match n with | 6 => ⟨[(0, false), (1, false), (2, false), (3, false), (4, false), (5, false), (6, false), (7, false), (8, false), (9, false)], none, [], []⟩ | 11 => ⟨[(0, false), (1, false), (2, false), (3, false), (4, false), (5, false), (6, false), (7, false), (8, false), (9, false)], none, [], []⟩ | _ => default
def live160 : Nat → Nat := fun n => match n with | 0 => 1 | 1 => 257 | 2 => 4 | 3 => 9 | 4 => 8201 | 5 => 9 | 6 => 33554441 | 7 => 25 | 8 => 57 | 9 => 4294967353 | 10 => 57 | 11 => 17592186044473 | 12 => 57 | 13 => 57 | 14 => 9 | 15 => 4 | 16 => 4 | _ => 0
theorem fok160 : fnOkX Tryz.prog xmoves xcaps 160 Tryz.f160 ord160 := fnOkX_mk Tryz.func160 (by kernel_rfl)
def ord161 : Nat → RHint := fun n => match n with | 16 => ⟨[(0, false), (1, false), (3, false), (4, false), (2, true), (5, true), (6, false)], none, [], [7, 8]⟩ | _ => default
def live161 : Nat → Nat := fun n => match n with | 0 => 3 | 1 => 32771 | 2 => 48 | 3 => 67 | 4 => 917569 | 5 => 1966145 | 6 => 917825 | 7 => 4295885121 | 8 => 48 | 9 => 918337 | 10 => 60130460417 | 11 => 128849937153 | 12 => 60130462465 | 13 => 3908421159681 | 14 => 8306467670785 | 15 => 3908421167873 | 16 => 3908421159681 | 17 => 3908421159681 | 18 => 60130460417 | 19 => 917569 | 20 => 917569 | 21 => 48 | _ => 0
theorem fok161 : fnOkX Tryz.prog xmoves xcaps 161 Tryz.f161 ord161 := fnOkX_mk Tryz.func161 (by kernel_rfl)
def ord162 : Nat → RHint := fun _ => default
def live162 : Nat → Nat := fun n => match n with | 0 => 7 | 1 => 135 | 2 => 96 | 3 => 2049 | 4 => 96 | 5 => 96 | _ => 0
theorem fok162 : fnOkX Tryz.prog xmoves xcaps 162 Tryz.f162 ord162 := fnOkX_mk Tryz.func162 (by kernel_rfl)
def ord163 : Nat → RHint := fun _ => default
def live163 : Nat → Nat := fun n => match n with | 0 => 1 | 1 => 4 | _ => 0
theorem fok163 : fnOkX Tryz.prog xmoves xcaps 163 Tryz.f163 ord163 := fnOkX_mk Tryz.func163 (by kernel_rfl)
def ord164 : Nat → RHint := fun _ => default
def live164 : Nat → Nat := fun n => match n with | 0 => 56 | 1 => 440 | 2 => 16568 | 3 => 64 | 4 => 64 | _ => 0
theorem fok164 : fnOkX Tryz.prog xmoves xcaps 164 Tryz.f164 ord164 := fnOkX_mk Tryz.func164 (by kernel_rfl)
def ord165 : Nat → RHint := fun n => match n with | 3 => ⟨[(0, false), (1, false), (2, false), (3, false), (4, false), (5, false), (6, false), (7, false), (8, true), (9, false), (10, false), (11, false), (12, false)], none, [], [13]⟩ | 11 => ⟨[(0, false), (1, false), (2, false), (3, false), (5, false), (4, true), (6, true), (7, false), (8, false), (9, false), (10, false)], none, [], [11]⟩ | _ => default
def live165 : Nat → Nat := fun n => match n with | 0 => 49 | 1 => 524337 | 2 => 192 | 3 => 817 | 4 => 34359738673 | 5 => 192 | 6 => 1329 | 7 => 481036338225 | 8 => 1030792152113 | 9 => 481036342321 | 10 => 481036350513 | 11 => 481036387377 | 12 => 481036370993 | 13 => 36893488628455441457 | 14 => 192 | 15 => 481036338225 | 16 => 192 | _ => 0
theorem fok165 : fnOkX Tryz.prog xmoves xcaps 165 Tryz.f165 ord165 := fnOkX_mk Tryz.func165 (by kernel_rfl)
def ord166 : Nat → RHint := fun _ => default
def live166 : Nat → Nat := fun n => match n with | 0 => 1 | 1 => 49 | 2 => 4145 | 3 => 12 | 4 => 12 | _ => 0
theorem fok166 : fnOkX Tryz.prog xmoves xcaps 166 Tryz.f166 ord166 := fnOkX_mk Tryz.func166 (by kernel_rfl)
def ord167 : Nat → RHint := fun _ => default
def live167 : Nat → Nat := fun n => match n with | 0 => 14 | 1 => 142 | 2 => 398 | 3 => 0 | 4 => 32780 | 5 => 1835012 | 6 => 3932164 | 7 => 1835044 | 8 => 1835012 | 9 => 1835012 | _ => 0
theorem fok167 : fnOkX Tryz.prog xmoves xcaps 167 Tryz.f167 ord167 := fnOkX_mk Tryz.func167 (by kernel_rfl)
def ord168 : Nat → RHint := fun _ => default
def live168 : Nat → Nat := fun n => match n with | 0 => 14 | 1 => 16 | _ => 0
theorem fok168 : fnOkX Tryz.prog xmoves xcaps 168 Tryz.f168 ord168 := fnOkX_mk Tryz.func168 (by kernel_rfl)
def ord169 : Nat → RHint := fun _ => default
def live169 : Nat → Nat := fun n => match n with | 0 => 56 | 1 => 114744 | 2 => 245816 | 3 => 115000 | 4 => 115768 | 5 => 134332472 | 6 => 64 | 7 => 114744 | 8 => 6442451000 | 9 => 15032385592 | 10 => 6442453048 | 11 => 6442463288 | 12 => 140743930806328 | 13 => 64 | 14 => 6442451000 | 15 => 64 | _ => 0
theorem fok169 : fnOkX Tryz.prog xmoves xcaps 169 Tryz.f169 ord169 := fnOkX_mk Tryz.func169 (by kernel_rfl)
def ord170 : Nat → RHint := fun _ => default
def live170 : Nat → Nat := fun n => match n with | 0 => 1053 | 1 => 3093 | 2 => 1051669 | 3 => 8391701 | 4 => 3093 | 5 => 3093 | 6 => 3093 | 7 => 3093 | 8 => 0 | _ => 0
theorem fok170 : fnOkX Tryz.prog xmoves xcaps 170 Tryz.f170 ord170 := fnOkX_mk Tryz.func170 (by kernel_rfl)
def ord171 : Nat → RHint := fun _ => default
def live171 : Nat → Nat := fun n => match n with | 0 => 3 | 1 => 67 | 2 => 451 | 3 => 33219 | 4 => 963 | 5 => 134218691 | 6 => 451 | 7 => 451 | 8 => 48 | _ => 0
theorem fok171 : fnOkX Tryz.prog xmoves xcaps 171 Tryz.f171 ord171 := fnOkX_mk Tryz.func171 (by kernel_rfl)
def ord172 : Nat → RHint := fun n => match n with | 11 => ⟨[(0, false), (1, false), (2, false), (3, false), (4, false), (5, false), (6, false), (7, false)], none, [], [8]⟩ | 15 => ⟨[(0, false), (1, false), (2, false), (3, false), (4, false), (5, false), (6, false), (7, false)], none, [], [8]⟩ | _ => default
def live172 : Nat → Nat := fun n => match n with | 0 => 7 | 1 => 7 | 2 => 135 | 3 => 65671 | 4 => 64 | 5 => 391 | 6 => 4194695 | 7 => 64 | 8 => 2147484039 | 9 => 647 | 10 => 643 | 11 => 512 | 12 => 64 | 13 => 391 | 14 => 295147905179352826247 | 15 => 7 | 16 => 1 | 17 => 64 | 18 => 131 | 19 => 1 | 20 => 64 | _ => 0
theorem fok172 : fnOkX Tryz.prog xmoves xcaps 172 Tryz.f172 ord172 := fnOkX_mk Tryz.func172 (by kernel_rfl)
def ord173 : Nat → RHint := fun n => match n with | 17 => ⟨[(0, false), (1, false), (2, false), (3, false), (4, false), (5, false), (6, false), (7, false), (8, false), (9, false), (10, false), (11, false)], none, [], [12, 13, 14]⟩ | _ => default
def live173 : Nat → Nat := fun n => match n with | 0 => 271 | 1 => 783 | 2 => 1807 | 3 => 8390415 | 4 => 0 | 5 => 536872719 | 6 => 0 | 7 => 34359740175 | 8 => 1807 | 9 => 1807 | 10 => 7951 | 11 => 1125899906850575 | 12 => 3855 | 13 => 3855 | 14 => 7951 | 15 => 295147905179352829711 | 16 => 4722366482869645217551 | 17 => 154742504910672534362394383 | 18 => 8973 | 19 => 783 | 20 => 50191 | 21 => 17935 | 22 => 214543 | 23 => 475663 | 24 => 10384593717069655257060992658915855 | 25 => 17167 | 26 => 17165 | 27 => 783 | 28 => 17167 | 29 => 17163 | 30 => 783 | _ => 0
theorem fok173 : fnOkX Tryz.prog xmoves xcaps 173 Tryz.f173 ord173 := fnOkX_mk Tryz.func173 (by kernel_rfl)
def ord174 : Nat → RHint := fun _ => default
def live174 : Nat → Nat := fun n => match n with | 0 => 1 | 1 => 4 | 2 => 4 | _ => 0
theorem fok174 : fnOkX Tryz.prog xmoves xcaps 174 Tryz.f174 ord174 := fnOkX_mk Tryz.func174 (by kernel_rfl)
def ord175 : Nat → RHint := fun _ => default
def live175 : Nat → Nat := fun n => match n with | 0 => 3 | 1 => 16 | _ => 0
theorem fok175 : fnOkX Tryz.prog xmoves xcaps 175 Tryz.f175 ord175 := fnOkX_mk Tryz.func175 (by kernel_rfl)
def ord176 : Nat → RHint := fun _ => default
def live176 : Nat → Nat := fun n => match n with | 0 => 1 | 1 => 4 | _ => 0
theorem fok176 : fnOkX Tryz.prog xmoves xcaps 176 Tryz.f176 ord176 := fnOkX_mk Tryz.func176 (by kernel_rfl)
def ord177 : Nat → RHint := fun _ => default
def live177 : Nat → Nat := fun n => match n with | 0 => 1 | 1 => 17 | 2 => 4 | 3 => 4 | _ => 0
theorem fok177 : fnOkX Tryz.prog xmoves xcaps 177 Tryz.f177 ord177 := fnOkX_mk Tryz.func177 (by kernel_rfl)
def ord178 : Nat → RHint := fun _ => default
def live178 : Nat → Nat := fun n => match n with | 0 => 1 | 1 => 4 | _ => 0
theorem fok178 : fnOkX Tryz.prog xmoves xcaps 178 Tryz.f178 ord178 := fnOkX_mk Tryz.func178 (by kernel_rfl)
def ord179 : Nat → RHint := fun _ => default
def live179 : Nat → Nat := fun n => match n with | 0 => 30 | 1 => 32 | _ => 0
theorem fok179 : fnOkX Tryz.prog xmoves xcaps 179 Tryz.f179 ord179 := fnOkX_mk Tryz.func179 (by kernel_rfl)
def ord180 : Nat → RHint := fun n => match n with | 15 => ⟨[(0, false), (1, false), (2, false), (3, false), (4, false), (5, false), (6, true), (7, false), (8, true), (9, false)], none, [1], [10]⟩ | _ => default
def live180 : Nat → Nat := fun n => match n with | 0 => 406 | 1 => 1942 | 2 => 525206 | 3 => 4194706 | 4 => 402 | 5 => 2147484048 | 6 => 256 | 7 => 256 | 8 => 68719477142 | 9 => 256 | 10 => 2454 | 11 => 2454 | 12 => 15393162791302 | 13 => 32985348835718 | 14 => 15393162799494 | 15 => 15393162791302 | 16 => 15393162791302 | 17 => 256 | _ => 0
theorem fok180 : fnOkX Tryz.prog xmoves xcaps 180 Tryz.f180 ord180 := fnOkX_mk Tryz.func180 (by kernel_rfl)
def ord181 : Nat → RHint := fun _ => default
def live181 : Nat → Nat := fun n => match n with | 0 => 3 | 1 => 8 | _ => 0
theorem fok181 : fnOkX Tryz.prog xmoves xcaps 181 Tryz.f181 ord181 := fnOkX_mk Tryz.func181 (by kernel_rfl)
def ord182 : Nat → RHint := fun _ => default
def live182 : Nat → Nat := fun n => match n with | 0 => 1 | 1 => 17 | 2 => 1073741825 | 3 => 33 | 4 => 549755813921 | 5 => 33 | 6 => 17592186044449 | 7 => 12 | 8 => 97 | 9 => 985162418487392 | 10 => 2111062325330016 | 11 => 985162418487648 | 12 => 985162418487648 | 13 => 73042756456415584 | 14 => 12 | 15 => 985162418487392 | 16 => 985162418487392 | 17 => 73786976294838206528 | 18 => 64 | 19 => 12 | 20 => 1536 | 21 => 12 | _ => 0
theorem fok182 : fnOkX Tryz.prog xmoves xcaps 182 Tryz.f182 ord182 := fnOkX_mk Tryz.func182 (by kernel_rfl)
def ord183 : Nat → RHint := fun _ => default
def live183 : Nat → Nat := fun n => match n with | 0 => 31 | 1 => 2079 | 2 => 6175 | 3 => 1024 | 4 => 526367 | 5 => 1024 | 6 => 67110943 | 7 => 1024 | 8 => 17179869211 | 9 => 1024 | 10 => 1024 | _ => 0
theorem fok183 : fnOkX Tryz.prog xmoves xcaps 183 Tryz.f183 ord183 := fnOkX_mk Tryz.func183 (by kernel_rfl)
def ord184 : Nat → RHint := fun n => match n with | 2 => ⟨[], none, [], [1000000]⟩ | 8 => ⟨[(0, false), (1, false), (2, false), (3, false), (4, false), (5, false), (6, false), (7, false), (8, false), (9, false), (10, false), (11, false), (12, false), (13, false), (14, false), (15, false), (16, false), (17, false), (18, false), (19, false), (20, false)], none, [], [21, 22, 23]⟩ | 14 => ⟨[(0, false), (1, false), (2, false), (3, false), (4, false), (5, false), (6, false), (7, false), (8, false)], none, [], [9, 10]⟩ | _ => default
def live184 : Nat → Nat := fun n => match n with | 0 => 49 | 1 => 305 | 2 => 816 | 3 => 274877907744 | 4 => 192 | 5 => 30786325578528 | 6 => 65970697667360 | 7 => 30786325580576 | 8 => 2361183272221148185376 | 9 => 192 | 10 => 30786325578528 | 11 => 132226261520350065984000 | 12 => 283341988972178712822272 | 13 => 132226261520350065996288 | 14 => 2476012304832280899864232448 | 15 => 192 | 16 => 132226261520350065984000 | 17 => 192 | _ => 0
theorem fok184 : fnOkX Tryz.prog xmoves xcaps 184 Tryz.f184 ord184 := fnOkX_mk Tryz.func184 (by kernel_rfl)
def ord185 : Nat → RHint := fun n => match n with | 2 => ⟨[(0, false), (1, false), (2, false), (3, false), (4, false), (5, false), (6, false), (7, false), (8, false), (9, false), (10, false), (11, false), (12, false), (13, false), (14, false), (15, false), (16, false), (17, false), (18, false), (19, false), (20, false), (21, false), (22, false), (23, false), (24, false), (25, false), (26, false), (27, false)], none, [], [28, 29, 30]⟩ | 6 => ⟨[(0, false), (1, false), (2, false), (3, false), (4, false), (5, false), (6, false), (7, false), (8, false), (9, true), (10, false), (11, false), (12, false), (13, false)], none, [], [14]⟩ | _ => default
def live185 : Nat → Nat := fun n => match n with | 0 => 6 | 1 => 70 | 2 => 140737488355398 | 3 => 48 | 4 => 198 | 5 => 454 | 6 => 898 | 7 => 2946 | 8 => 8264141345021879126402 | 9 => 17708874310761169553794 | 10 => 8264141345021879134594 | 11 => 8264141345021879150978 | 12 => 8264141345021879126402 | 13 => 8264141345021879126402 | 14 => 48 | _ => 0
theorem fok185 : fnOkX Tryz.prog xmoves xcaps 185 Tryz.f185 ord185 := fnOkX_mk Tryz.func185 (by kernel_rfl)
def ord186 : Nat → RHint := fun _ => default
def live186 : Nat → Nat := fun n => match n with | 0 => 14 | 1 => 16 | _ => 0
theorem fok186 : fnOkX Tryz.prog xmoves xcaps 186 Tryz.f186 ord186 := fnOkX_mk Tryz.func186 (by kernel_rfl)
def ord187 : Nat → RHint := fun n => match n with | 3 => ⟨[], some 999999, [], []⟩ | _ => default
def live187 : Nat → Nat := fun n => match n with | 0 => 1039 | 1 => 9231 | 2 => 1039 | 3 => 1039 | _ => 0
theorem fok187 : fnOkX Tryz.prog xmoves xcaps 187 Tryz.f187 ord187 := fnOkX_mk Tryz.func187 (by kernel_rfl)
def ord188 : Nat → RHint := fun _ => default
def live188 : Nat → Nat := fun n => match n with | 0 => 3 | 1 => 16 | _ => 0
theorem fok188 : fnOkX Tryz.prog xmoves xcaps 188 Tryz.f188 ord188 := fnOkX_mk Tryz.func188 (by kernel_rfl)
def ord189 : Nat → RHint := fun _ => default
def live189 : Nat → Nat := fun n => match n with | 0 => 1 | 1 => 4 | _ => 0
theorem fok189 : fnOkX Tryz.prog xmoves xcaps 189 Tryz.f189 ord189 := fnOkX_mk Tryz.func189 (by kernel_rfl)
def ord191 : Nat → RHint := fun _ => default
def live191 : Nat → Nat := fun n => match n with | 0 => 0 | _ => 0
theorem fok191 : fnOkX Tryz.prog xmoves xcaps 191 Tryz.f191 ord191 := fnOkX_mk Tryz.func191 (by kernel_rfl)
def ord192 : Nat → RHint := fun n => match n with | 4 => ⟨[(0, false), (1, false), (2, false), (3, false), (4, false), (5, false), (6, false), (7, false), (8, false), (9, false), (10, false), (11, false), (12, false)], none, [], [13, 14]⟩ | 6 => ⟨[], some 999999, [], []⟩ | _ => default
def live192 : Nat → Nat := fun n => match n with | 0 => 71 | 1 => 4167 | 2 => 71 | 3 => 199 | 4 => 1073742023 | 5 => 199 | 6 => 199 | _ => 0
theorem fok192 : fnOkX Tryz.prog xmoves xcaps 192 Tryz.f192 ord192 := fnOkX_mk Tryz.func192 (by kernel_rfl)
def ord193 : Nat → RHint := fun n => match n with | 10 => ⟨[], some 999999, [], []⟩ | _ => default
def live193 : Nat → Nat := fun n => match n with | 0 => 71 | 1 => 199 | 2 => 449 | 3 => 961 | 4 => 525249 | 5 => 961 | 6 => 961 | 7 => 1217 | 8 => 1073743041 | 9 => 1217 | 10 => 1217 | 11 => 1217 | _ => 0
theorem fok193 : fnOkX Tryz.prog xmoves xcaps 193 Tryz.f193 ord193 := fnOkX_mk Tryz.func193 (by kernel_rfl)
def ord194 : Nat → RHint := fun n => match n with | 10 => ⟨[], some 999999, [], []⟩ | _ => default
def live194 : Nat → Nat := fun n => match n with | 0 => 67 | 1 => 32835 | 2 => 195 | 3 => 451 | 4 => 963 | 5 => 8589935555 | 6 => 963 | 7 => 1987 | 8 => 8796093024195 | 9 => 1987 | 10 => 963 | _ => 0
theorem fok194 : fnOkX Tryz.prog xmoves xcaps 194 Tryz.f194 ord194 := fnOkX_mk Tryz.func194 (by kernel_rfl)
def ord195 : Nat → RHint := fun _ => default
def live195 : Nat → Nat := fun n => match n with | 0 => 7 | 1 => 259 | 2 => 771 | 3 => 1795 | 4 => 3843 | 5 => 7937 | 6 => 4294975233 | 7 => 17179876865 | 8 => 7681 | 9 => 7681 | 10 => 7681 | 11 => 2560 | 12 => 562949953423360 | 13 => 192 | 14 => 2814749767108608 | 15 => 192 | 16 => 18014398509484032 | 17 => 192 | _ => 0
theorem fok195 : fnOkX Tryz.prog xmoves xcaps 195 Tryz.f195 ord195 := fnOkX_mk Tryz.func195 (by kernel_rfl)
def ord196 : Nat → RHint := fun n => match n with | 3 => ⟨[(0, false), (1, false), (2, false), (3, false), (4, false), (5, false), (6, false), (7, false), (8, false), (9, false), (10, false), (11, false), (12, false), (13, true), (14, false), (15, true)], none, [], []⟩ | _ => default
def live196 : Nat → Nat := fun n => match n with | 0 => 69 | 1 => 193 | 2 => 8385 | 3 => 193 | 4 => 193 | 5 => 193 | _ => 0
theorem fok196 : fnOkX Tryz.prog xmoves xcaps 196 Tryz.f196 ord196 := fnOkX_mk Tryz.func196 (by kernel_rfl)
def ord197 : Nat → RHint := fun n => match n with | 5 => ⟨[(0, false), (1, false), (2, false), (3, false), (4, false), (5, false), (6, false), (7, false), (8, false), (9, false), (10, false), (11, false), (12, false)], none, [], [13, 14, 15]⟩ | 11 => ⟨[], some 999999, [], []⟩ | 16 => ⟨[(0, false), (1, false), (2, false), (3, false), (4, false), (5, false), (6, false), (7, false), (8, false)], none, [], [9, 10]⟩ | 17 => ⟨[], some 999999, [], []⟩ | 22 => ⟨[(0, false), (1, false), (2, false), (3, false), (4, false), (5, false), (6, false), (7, false), (8, false)], none, [], [9, 10]⟩ | 23 => ⟨[], some 999999, [], []⟩ | _ => default
def live197 : Nat → Nat := fun n => match n with | 0 => 7 | 1 => 135 | 2 => 391 | 3 => 16775 | 4 => 391 | 5 => 4294967687 | 6 => 391 | 7 => 137438953863 | 8 => 64 | 9 => 2199023255943 | 10 => 64 | 11 => 391 | 12 => 2305843009213694343 | 13 => 903 | 14 => 36893488147419104135 | 15 => 903 | 16 => 302231454903657293677447 | 17 => 903 | 18 => 316912650057057350374175801735 | 19 => 1415 | 20 => 10141204801825835211973625644423 | 21 => 1415 | 22 => 83076749736557242056487941267522951 | 23 => 1415 | 24 => 64 | _ => 0
theorem fok197 : fnOkX Tryz.prog xmoves xcaps 197 Tryz.f197 ord197 := fnOkX_mk Tryz.func197 (by kernel_rfl)
def ord198 : Nat → RHint := fun n => match n with | 1 => ⟨[(0, false), (1, false), (2, false), (3, false), (4, false), (5, false), (6, false), (7, false), (8, false), (9, false), (10, false), (11, false), (12, false), (13, true), (14, false), (15, true)], none, [], []⟩ | 3 => ⟨[(0, false), (1, false), (2, false), (3, false), (4, false), (5, false), (6, false), (7, false), (8, false), (9, false), (10, false), (11, false)], none, [], [12, 13, 14]⟩ | 5 => ⟨[(0, false), (1, false), (2, false), (3, false), (4, false), (5, false), (6, false), (7, false), (8, false), (9, false), (10, false), (11, false)], none, [], [12, 13]⟩ | 8 => ⟨[(0, false), (1, false), (2, false), (3, false), (4, false), (5, false), (6, false), (7, false), (8, false), (9, false), (10, false), (11, false), (12, false), (13, true), (14, false), (15, true)], none, [], []⟩ | _ => default
def live198 : Nat → Nat := fun n => match n with | 0 => 15 | 1 => 7 | 2 => 1539 | 3 => 8796093023747 | 4 => 1539 | 5 => 576460752303425027 | 6 => 1539 | 7 => 18446744073709553155 | 8 => 1539 | 9 => 1539 | 10 => 1539 | 11 => 256 | _ => 0
theorem fok198 : fnOkX Tryz.prog xmoves xcaps 198 Tryz.f198 ord198 := fnOkX_mk Tryz.func198 (by kernel_rfl)
def ord199 : Nat → RHint := fun n => match n with | 1 => ⟨[(0, false), (1, false), (2, false), (3, false), (4, false), (5, false), (6, false), (7, false), (8, false), (9, false), (10, false), (11, false), (12, false), (13, true), (14, false), (15, true)], none, [], []⟩ | 3 => ⟨[(0, false), (1, false), (2, false), (3, false), (4, false), (5, false), (6, false), (7, false), (8, false), (9, false), (10, false), (11, false)], none, [], [12, 13]⟩ | 5 => ⟨[(0, false), (1, false), (2, false), (3, false), (4, false), (5, false), (6, false), (7, false), (8, false), (9, false), (10, false), (11, false)], none, [], [12, 13, 14]⟩ | 8 => ⟨[(0, false), (1, false), (2, false), (3, false), (4, false), (5, false), (6, false), (7, false), (8, false), (9, false), (10, false), (11, false), (12, false), (13, true), (14, false), (15, true)], none, [], []⟩ | 10 => ⟨[(0, false), (1, false), (2, false), (3, false), (4, false), (5, false), (6, false), (7, false), (8, false), (9, false), (10, false), (11, false), (12, false), (13, true), (14, false), (15, true)], none, [], []⟩ | 13 => ⟨[(0, false), (1, false), (2, false), (3, false), (4, false), (5, false), (6, false), (7, false), (8, false), (9, false), (10, false), (11, false)], none, [], [12, 13]⟩ | 15 => ⟨[(0, false), (1, false), (2, false), (3, false), (4, false), (5, false), (6, false), (7, false), (8, false), (9, false), (10, false), (11, false)], none, [], [12, 13, 14]⟩ | 18 => ⟨[(0, false), (1, false), (2, false), (3, false), (4, false), (5, false), (6, false), (7, false), (8, false), (9, false), (10, false), (11, false), (12, false), (13, true), (14, false), (15, true)], none, [], []⟩ | 21 => ⟨[(0, false), (1, false), (2, false), (3, false), (4, false), (5, false), (6, false), (7, false), (8, false), (9, false), (10, false), (11, false), (12, false), (13, true), (14, false), (15, true)], none, [], []⟩ | _ => default
def live199 : Nat → Nat := fun n => match n with | 0 => 15 | 1 => 7 | 2 => 3075 | 3 => 8796093025283 | 4 => 3075 | 5 => 1152921504606850051 | 6 => 3075 | 7 => 36893488147419106307 | 8 => 2048 | 9 => 768 | 10 => 3075 | 11 => 3075 | 12 => 3075 | 13 => 5192296858534827628530496329223171 | 14 => 3075 | 15 => 680564733841876926926749214863536425987 | 16 => 3075 | 17 => 21778071482940061661655974875633165536259 | 18 => 3075 | 19 => 3075 | 20 => 3075 | 21 => 2048 | 22 => 768 | _ => 0
theorem fok199 : fnOkX Tryz.prog xmoves xcaps 199 Tryz.f199 ord199 := fnOkX_mk Tryz.func199 (by kernel_rfl)
def ord200 : Nat → RHint := fun _ => default
def live200 : Nat → Nat := fun n => match n with | 0 => 5 | 1 => 21 | 2 => 1 | 3 => 5 | 4 => 261 | 5 => 5 | 6 => 5 | 7 => 4 | _ => 0
theorem fok200 : fnOkX Tryz.prog xmoves xcaps 200 Tryz.f200 ord200 := fnOkX_mk Tryz.func200 (by kernel_rfl)
def ord201 : Nat → RHint := fun _ => default
def live201 : Nat → Nat := fun n => match n with | 0 => 5 | 1 => 21 | 2 => 1 | 3 => 5 | 4 => 261 | 5 => 5 | 6 => 5 | 7 => 16389 | 8 => 5 | 9 => 5 | 10 => 4 | _ => 0
theorem fok201 : fnOkX Tryz.prog xmoves xcaps 201 Tryz.f201 ord201 := fnOkX_mk Tryz.func201 (by kernel_rfl)
def ord202 : Nat → RHint := fun _ => default
def live202 : Nat → Nat := fun n => match n with | 0 => 3 | 1 => 387 | 2 => 899 | 3 => 419 | 4 => 65955 | 5 => 16 | 6 => 387 | 7 => 16 | _ => 0
theorem fok202 : fnOkX Tryz.prog xmoves xcaps 202 Tryz.f202 ord202 := fnOkX_mk Tryz.func202 (by kernel_rfl)
def ord203 : Nat → RHint := fun _ => default
def live203 : Nat → Nat := fun n => match n with | 0 => 3 | 1 => 2051 | 2 => 131073 | 3 => 16 | 4 => 33 | 5 => 97 | 6 => 8388705 | 7 => 97 | 8 => 225 | 9 => 161 | 10 => 17179869344 | 11 => 160 | 12 => 16 | 13 => 16 | 14 => 512 | 15 => 16 | _ => 0
theorem fok203 : fnOkX Tryz.prog xmoves xcaps 203 Tryz.f203 ord203 := fnOkX_mk Tryz.func203 (by kernel_rfl)
def ord204 : Nat → RHint := fun _ => default
def live204 : Nat → Nat := fun n => match n with | 0 => 7 | 1 => 8199 | 2 => 192 | 3 => 263 | 4 => 65799 | 5 => 196871 | 6 => 263 | 7 => 2097415 | 8 => 7 | 9 => 263 | 10 => 263 | 11 => 900 | 12 => 274877907844 | 13 => 192 | 14 => 2199023256324 | 15 => 772 | 16 => 1792 | 17 => 4503599627372288 | 18 => 192 | 19 => 4611686018427389696 | 20 => 192 | 21 => 2304 | 22 => 590295810358705653760 | 23 => 2048 | 24 => 192 | _ => 0
theorem fok204 : fnOkX Tryz.prog xmoves xcaps 204 Tryz.f204 ord204 := fnOkX_mk Tryz.func204 (by kernel_rfl)
def ord205 : Nat → RHint := fun n => match n with | 1 => ⟨[(0, false), (1, false), (3, false), (2, true), (4, false)], none, [], [5, 6]⟩ | _ => default
def live205 : Nat → Nat := fun n => match n with | 0 => 3 | 1 => 16 | _ => 0
theorem fok205 : fnOkX Tryz.prog xmoves xcaps 205 Tryz.f205 ord205 := fnOkX_mk Tryz.func205 (by kernel_rfl)
def ord206 : Nat → RHint := fun n => match n with | 1 => ⟨[(0, false), (1, false), (3, false), (2, true), (4, false)], none, [], [5, 6]⟩ | _ => default
def live206 : Nat → Nat := fun n => match n with | 0 => 3 | 1 => 16 | _ => 0
theorem fok206 : fnOkX Tryz.prog xmoves xcaps 206 Tryz.f206 ord206 := fnOkX_mk Tryz.func206 (by kernel_rfl)
def ord207 : Nat → RHint := fun _ => default
def live207 : Nat → Nat := fun n => match n with | 0 => 7 | 1 => 64 | _ => 0
theorem fok207 : fnOkX Tryz.prog xmoves xcaps 207 Tryz.f207 ord207 := fnOkX_mk Tryz.func207 (by kernel_rfl)
def ord208 : Nat → RHint := fun _ => default
def live208 : Nat → Nat := fun n => match n with | 0 => 7 | 1 => 64 | _ => 0
theorem fok208 : fnOkX Tryz.prog xmoves xcaps 208 Tryz.f208 ord208 := fnOkX_mk Tryz.func208 (by kernel_rfl)
def ord209 : Nat → RHint := fun n => match n with | 5 => ⟨[(0, false), (1, false), (2, false), (3, false), (4, false), (5, false), (6, false), (7, false), (8, false), (9, false), (10, true), (11, false), (12, false)], none, [4], [13]⟩ | 10 => ⟨[(0, false), (1, false), (2, false), (3, false), (4, false), (5, false), (6, false), (11, false), (7, true), (8, false), (9, false), (10, false)], some 11, [], [12, 13]⟩ | _ => default
def live209 : Nat → Nat := fun n => match n with | 0 => 49 | 1 => 1073 | 2 => 3121 | 3 => 64 | 4 => 9265 | 5 => 0 | 6 => 64 | 7 => 268436529 | 8 => 64 | 9 => 4398046511153 | 10 => 417 | 11 => 64 | 12 => 64 | _ => 0
theorem fok209 : fnOkX Tryz.prog xmoves xcaps 209 Tryz.f209 ord209 := fnOkX_mk Tryz.func209 (by kernel_rfl)
def ord210 : Nat → RHint := fun _ => default
def live210 : Nat → Nat := fun n => match n with | 0 => 3 | 1 => 16 | _ => 0
theorem fok210 : fnOkX Tryz.prog xmoves xcaps 210 Tryz.f210 ord210 := fnOkX_mk Tryz.func210 (by kernel_rfl)
def ord211 : Nat → RHint := fun n => match n with | 2 => ⟨[(0, false), (1, false), (2, false), (3, false), (4, false), (6, false), (5, true)], none, [], [7, 8, 9]⟩ | 5 => ⟨[(0, false), (1, false), (2, false), (3, false), (4, false), (5, false), (6, false), (11, false), (7, true), (8, false), (9, false), (10, false)], some 11, [], [12, 13]⟩ | _ => default
def live211 : Nat → Nat := fun n => match n with | 0 => 56 | 1 => 568 | 2 => 64 | 3 => 2097208 | 4 => 64 | 5 => 424 | 6 => 64 | _ => 0
theorem fok211 : fnOkX Tryz.prog xmoves xcaps 211 Tryz.f211 ord211 := fnOkX_mk Tryz.func211 (by kernel_rfl)
def ord212 : Nat → RHint := fun _ => default
def live212 : Nat → Nat := fun n => match n with | 0 => 28 | 1 => 16 | _ => 0
theorem fok212 : fnOkX Tryz.prog xmoves xcaps 212 Tryz.f212 ord212 := fnOkX_mk Tryz.func212 (by kernel_rfl)
def ord213 : Nat → RHint := fun _ => default
def live213 : Nat → Nat := fun n => match n with | 0 => 0 | 1 => 4 | _ => 0
theorem fok213 : fnOkX Tryz.prog xmoves xcaps 213 Tryz.f213 ord213 := fnOkX_mk Tryz.func213 (by kernel_rfl)
def ord214 : Nat → RHint := fun _ => default
def live214 : Nat → Nat := fun n => match n with | 0 => 3 | 1 => 1 | 2 => 0 | _ => 0
theorem fok214 : fnOkX Tryz.prog xmoves xcaps 214 Tryz.f214 ord214 := fnOkX_mk Tryz.func214 (by kernel_rfl)
def ord215 : Nat → RHint := fun n => match n with | 3 => ⟨[(0, false), (1, false), (2, false), (3, false), (4, false), (5, false), (6, false), (7, false), (8, false), (9, false), (10, false), (11, false), (12, false), (13, false), (14, false), (15, false), (16, false), (17, false)], none, [], [18, 19]⟩ | 5 => ⟨[(0, false), (1, false), (2, false), (3, false), (4, false), (5, false), (6, false), (7, false), (8, false), (9, false), (10, false), (11, false)], none, [], [12, 13]⟩ | 6 => ⟨[], some 999999, [], []⟩ | _ => default
def live215 : Nat → Nat := fun n => match n with | 0 => 269 | 1 => 781 | 2 => 66317 | 3 => 68719477517 | 4 => 781 | 5 => 4503599627371277 | 6 => 525 | 7 => 269 | _ => 0
theorem fok215 : fnOkX Tryz.prog xmoves xcaps 215 Tryz.f215 ord215 := fnOkX_mk Tryz.func215 (by kernel_rfl)
def ord216 : Nat → RHint := fun _ => default
def live216 : Nat → Nat := fun n => match n with | 0 => 1 | 1 => 4 | _ => 0
theorem fok216 : fnOkX Tryz.prog xmoves xcaps 216 Tryz.f216 ord216 := fnOkX_mk Tryz.func216 (by kernel_rfl)
def ord217 : Nat → RHint := fun n => match n with | 1 => ⟨[(0, false), (1, false), (2, false), (3, false), (4, false), (5, false), (6, false), (7, false), (8, false)], none, [], [9]⟩ | 2 => ⟨[(0, false), (1, false), (2, false), (3, false), (4, false), (5, false), (6, false), (7, false), (8, false)], none, [], [9]⟩ | 3 => ⟨[(0, false), (1, false), (2, false), (3, false), (4, false), (5, false), (6, false), (7, false), (8, false)], none, [], [9]⟩ | _ => default
def live217 : Nat → Nat := fun n => match n with | 0 => 1 | 1 => 1 | 2 => 1 | 3 => 1 | 4 => 4 | _ => 0
theorem fok217 : fnOkX Tryz.prog xmoves xcaps 217 Tryz.f217 ord217 := fnOkX_mk Tryz.func217 (by kernel_rfl)
def ord218 : Nat → RHint := fun _ => default
def live218 : Nat → Nat := fun n => match n with | 0 => 7 | 1 => 64 | _ => 0
theorem fok218 : fnOkX Tryz.prog xmoves xcaps 218 Tryz.f218 ord218 := fnOkX_mk Tryz.func218 (by kernel_rfl)
def ord219 : Nat → RHint := fun _ => default
def live219 : Nat → Nat := fun n => match n with | 0 => 31 | 1 => 31 | 2 => 23 | 3 => 4 | 4 => 1024 | _ => 0
theorem fok219 : fnOkX Tryz.prog xmoves xcaps 219 Tryz.f219 ord219 := fnOkX_mk Tryz.func219 (by kernel_rfl)
def ord220 : Nat → RHint := fun _ => default
def live220 : Nat → Nat := fun n => match n with | 0 => 1 | 1 => 17 | 2 => 4 | 3 => 4 | _ => 0
theorem fok220 : fnOkX Tryz.prog xmoves xcaps 220 Tryz.f220 ord220 := fnOkX_mk Tryz.func220 (by kernel_rfl)
def ord221 : Nat → RHint := fun _ => default
def live221 : Nat → Nat := fun n => match n with | 0 => 1 | 1 => 9 | 2 => 4 | _ => 0
theorem fok221 : fnOkX Tryz.prog xmoves xcaps 221 Tryz.f221 ord221 := fnOkX_mk Tryz.func221 (by kernel_rfl)
def ord222 : Nat → RHint := fun n => match n with | 7 => ⟨[], some 999999, [], []⟩ | 8 => ⟨[], some 999999, [], []⟩ | 9 => ⟨[], some 999999, [], []⟩ | 10 => ⟨[], some 999999, [], []⟩ | 17 => ⟨[], some 999999, [], []⟩ | 18 => ⟨[], some 999999, [], []⟩ | 23 => ⟨[], some 999999, [], []⟩ | _ => default
def live222 : Nat → Nat := fun n => match n with | 0 => 19 | 1 => 1048595 | 2 => 51 | 3 => 51 | 4 => 211 | 5 => 851 | 6 => 3859 | 7 => 3347 | 8 => 3091 | 9 => 1043 | 10 => 19 | 11 => 19 | 12 => 4113 | 13 => 633825300114114700748351606801 | 14 => 12305 | 15 => 12305 | 16 => 53265 | 17 => 20497 | 18 => 4113 | 19 => 4113 | 20 => 696898287454081973172991196020261297066001 | 21 => 69649 | 22 => 69649 | 23 => 4113 | 24 => 4113 | 25 => 2923003274661805836407369665432566039311865090049 | 26 => 0 | _ => 0
theorem fok222 : fnOkX Tryz.prog xmoves xcaps 222 Tryz.f222 ord222 := fnOkX_mk Tryz.func222 (by kernel_rfl)
def ord223 : Nat → RHint := fun _ => default
def live223 : Nat → Nat := fun n => match n with | 0 => 3103 | 1 => 268438559 | 2 => 3103 | 3 => 7199 | 4 => 15391 | 5 => 1073757215 | 6 => 15391 | 7 => 17179884575 | 8 => 31775 | 9 => 64543 | 10 => 130075 | 11 => 70368744307739 | 12 => 130075 | 13 => 130075 | 14 => 130075 | 15 => 15387 | 16 => 15385 | 17 => 146459 | 18 => 295147905179352972315 | 19 => 146459 | 20 => 408603 | 21 => 408601 | 22 => 146459 | 23 => 15387 | 24 => 15385 | 25 => 618970019642690137449577489 | 26 => 15377 | 27 => 15377 | 28 => 19807040628566084398386002945 | 29 => 3072 | 30 => 3072 | _ => 0
theorem fok223 : fnOkX Tryz.prog xmoves xcaps 223 Tryz.f223 ord223 := fnOkX_mk Tryz.func223 (by kernel_rfl)
def ord224 : Nat → RHint := fun _ => default
def live224 : Nat → Nat := fun n => match n with | 0 => 7 | 1 => 524295 | 2 => 192 | 3 => 263 | 4 => 775 | 5 => 192 | 6 => 33555207 | 7 => 4294968069 | 8 => 775 | 9 => 137438954247 | 10 => 775 | 11 => 775 | 12 => 1099511628549 | 13 => 775 | 14 => 775 | 15 => 4503599627371269 | 16 => 775 | 17 => 775 | 18 => 18446744073709552389 | 19 => 775 | 20 => 775 | 21 => 151115727451828646839047 | 22 => 775 | 23 => 9671406556917033397650183 | 24 => 192 | 25 => 775 | 26 => 38685626227668133590598407 | 27 => 1799 | 28 => 1276625665513048408489722631 | 29 => 1799 | 30 => 4951760157141521099596497671 | 31 => 1799 | 32 => 3843 | 33 => 7939 | 34 => 16131 | 35 => 4436777100798802905238461234946 | 36 => 9507379501711720511225274056450 | 37 => 4436777100798802905238461267714 | 38 => 4436777100798802905238461267714 | 39 => 192 | 40 => 85566415515405484601027466411778 | 41 => 4436777100798802905238461234946 | 42 => 5196733635635626431435734790487810 | 43 => 4436777100798802905238461300482 | 44 => 2658460428346932544610519359021956866 | 45 => 4436777100798802905238461300482 | 46 => 174224571867957270394046601910303785565954 | 47 => 192 | 48 => 2787593149820764669792763586986283649548034 | 49 => 192 | 50 => 4436777100798802905238461300482 | 51 => 4436777100798802905238461366018 | 52 => 730750818665451463538619517156944415066427629314 | 53 => 192 | 54 => 4436777100798802905238461234946 | 55 => 4436777100798802905238461234946 | 56 => 748288838313422294120286634350736906063837462011904 | 57 => 192 | 58 => 192 | _ => 0
theorem fok224 : fnOkX Tryz.prog xmoves xcaps 224 Tryz.f224 ord224 := fnOkX_mk Tryz.func224 (by kernel_rfl)
def ord225 : Nat → RHint := fun _ => default
def live225 : Nat → Nat := fun n => match n with | 0 => 1 | 1 => 65 | 2 => 4 | 3 => 9 | 4 => 8 | 5 => 4 | _ => 0
theorem fok225 : fnOkX Tryz.prog xmoves xcaps 225 Tryz.f225 ord225 := fnOkX_mk Tryz.func225 (by kernel_rfl)
def ord226 : Nat → RHint := fun _ => default
def live226 : Nat → Nat := fun n => match n with | 0 => 1 | 1 => 4 | _ => 0
theorem fok226 : fnOkX Tryz.prog xmoves xcaps 226 Tryz.f226 ord226 := fnOkX_mk Tryz.func226 (by kernel_rfl)
def ord227 : Nat → RHint := fun _ => default
def live227 : Nat → Nat := fun n => match n with | 0 => 7 | 1 => 16391 | 2 => 64 | 3 => 229382 | 4 => 491526 | 5 => 229766 | 6 => 230150 | 7 => 1073971206 | 8 => 64 | 9 => 229382 | 10 => 64 | _ => 0
theorem fok227 : fnOkX Tryz.prog xmoves xcaps 227 Tryz.f227 ord227 := fnOkX_mk Tryz.func227 (by kernel_rfl)
def ord228 : Nat → RHint := fun _ => default
def live228 : Nat → Nat := fun n => match n with | 0 => 85 | 1 => 4181 | 2 => 65621 | 3 => 192 | 4 => 4194389 | 5 => 341 | 6 => 85 | 7 => 192 | _ => 0
theorem fok228 : fnOkX Tryz.prog xmoves xcaps 228 Tryz.f228 ord228 := fnOkX_mk Tryz.func228 (by kernel_rfl)
def ord229 : Nat → RHint := fun n => match n with | 1 => ⟨[(0, false), (1, false), (2, false), (3, false), (4, false), (5, false), (6, false), (7, false), (8, false), (9, false), (10, false), (11, false), (12, false), (13, false), (14, false), (15, false), (16, false), (17, false)], none, [], [18]⟩ | 3 => ⟨[(0, false), (1, false), (2, false), (3, false), (4, false), (5, false), (6, false), (7, false), (8, false), (9, false), (10, false), (11, false), (12, false)], none, [], [13]⟩ | 4 => ⟨[(0, false), (1, false), (2, false), (3, false), (4, false), (5, false), (6, false), (7, false), (8, false), (9, false)], none, [], [10, 11]⟩ | 6 => ⟨[], some 999999, [], []⟩ | 9 => ⟨[(0, false), (1, true), (2, false), (3, false), (4, false), (5, false), (6, false), (7, false), (8, false)], none, [], [9, 10, 11]⟩ | _ => default
def live229 : Nat → Nat := fun n => match n with | 0 => 49 | 1 => 177 | 2 => 64 | 3 => 67108913 | 4 => 64 | 5 => 2251799813685297 | 6 => 0 | 7 => 64 | 8 => 2361183241434822606897 | 9 => 64 | 10 => 64 | _ => 0
theorem fok229 : fnOkX Tryz.prog xmoves xcaps 229 Tryz.f229 ord229 := fnOkX_mk Tryz.func229 (by kernel_rfl)
def ord230 : Nat → RHint := fun _ => default
def live230 : Nat → Nat := fun n => match n with | 0 => 3 | 1 => 387 | 2 => 899 | 3 => 419 | 4 => 65955 | 5 => 16 | 6 => 387 | 7 => 16 | _ => 0
theorem fok230 : fnOkX Tryz.prog xmoves xcaps 230 Tryz.f230 ord230 := fnOkX_mk Tryz.func230 (by kernel_rfl)
def ord231 : Nat → RHint := fun _ => default
def live231 : Nat → Nat := fun n => match n with | 0 => 2 | 1 => 4 | _ => 0
theorem fok231 : fnOkX Tryz.prog xmoves xcaps 231 Tryz.f231 ord231 := fnOkX_mk Tryz.func231 (by kernel_rfl)
def ord232 : Nat → RHint := fun _ => default
def live232 : Nat → Nat := fun n => match n with | 0 => 12 | 1 => 32780 | 2 => 16 | 3 => 44 | 4 => 228 | 5 => 480 | 6 => 137438953824 | 7 => 480 | 8 => 480 | 9 => 608 | 10 => 985162418487840 | 11 => 2111062325330464 | 12 => 985162418489888 | 13 => 985162418487840 | 14 => 985162418487840 | 15 => 16 | _ => 0
theorem fok232 : fnOkX Tryz.prog xmoves xcaps 232 Tryz.f232 ord232 := fnOkX_mk Tryz.func232 (by kernel_rfl)
def ord233 : Nat → RHint := fun n => match n with | 1 => ⟨[(0, false), (1, false), (2, false), (3, false), (4, false), (5, false)], none, [], [6, 7, 8]⟩ | _ => default
def live233 : Nat → Nat := fun n => match n with | 0 => 14 | 1 => 16 | _ => 0
theorem fok233 : fnOkX Tryz.prog xmoves xcaps 233 Tryz.f233 ord233 := fnOkX_mk Tryz.func233 (by kernel_rfl)
def ord234 : Nat → RHint := fun n => match n with | 2 => ⟨[(0, false), (1, false), (2, false), (3, false), (4, false), (5, false)], none, [], [6, 7]⟩ | _ => default
def live234 : Nat → Nat := fun n => match n with | 0 => 49 | 1 => 177 | 2 => 64 | 3 => 2097201 | 4 => 64 | 5 => 134217777 | 6 => 64 | 7 => 64 | _ => 0
theorem fok234 : fnOkX Tryz.prog xmoves xcaps 234 Tryz.f234 ord234 := fnOkX_mk Tryz.func234 (by kernel_rfl)
def ord235 : Nat → RHint := fun n => match n with | 1 => ⟨[(0, false), (1, false), (2, false), (3, false), (4, false), (5, false), (6, false), (7, false), (8, false), (9, false), (10, false), (11, false), (12, false)], none, [], []⟩ | _ => default
def live235 : Nat → Nat := fun n => match n with | 0 => 14 | 1 => 65548 | 2 => 8 | 3 => 8 | _ => 0
theorem fok235 : fnOkX Tryz.prog xmoves xcaps 235 Tryz.f235 ord235 := fnOkX_mk Tryz.func235 (by kernel_rfl)
def ord236 : Nat → RHint := fun n => match n with | 3 => ⟨[(0, false), (1, false), (2, false), (3, false), (4, false), (5, false), (6, false), (7, false), (8, false), (9, false), (10, false), (11, false), (12, false), (13, true), (14, false), (15, true)], none, [], []⟩ | _ => default
def live236 : Nat → Nat := fun n => match n with | 0 => 13 | 1 => 525 | 2 => 13 | 3 => 13 | _ => 0
theorem fok236 : fnOkX Tryz.prog xmoves xcaps 236 Tryz.f236 ord236 := fnOkX_mk Tryz.func236 (by kernel_rfl)
def ord237 : Nat → RHint := fun n => match n with | 1 => ⟨[(0, false), (1, false), (2, false), (3, false), (4, false), (5, false), (6, false), (7, false)], none, [], [8]⟩ | _ => default
def live237 : Nat → Nat := fun n => match n with | 0 => 15 | 1 => 262158 | 2 => 6 | 3 => 768 | 4 => 768 | _ => 0
theorem fok237 : fnOkX Tryz.prog xmoves xcaps 237 Tryz.f237 ord237 := fnOkX_mk Tryz.func237 (by kernel_rfl)
def ord238 : Nat → RHint := fun _ => default
def live238 : Nat → Nat := fun n => match n with | 0 => 1 | 1 => 4 | _ => 0
theorem fok238 : fnOkX Tryz.prog xmoves xcaps 238 Tryz.f238 ord238 := fnOkX_mk Tryz.func238 (by kernel_rfl)
def ord239 : Nat → RHint := fun _ => default
def live239 : Nat → Nat := fun n => match n with | 0 => 1 | 1 => 8 | 2 => 4 | 3 => 4 | _ => 0
theorem fok239 : fnOkX Tryz.prog xmoves xcaps 239 Tryz.f239 ord239 := fnOkX_mk Tryz.func239 (by kernel_rfl)
def ord240 : Nat → RHint := fun _ => default
def live240 : Nat → Nat := fun n => match n with | 0 => 1 | 1 => 4 | _ => 0
theorem fok240 : fnOkX Tryz.prog xmoves xcaps 240 Tryz.f240 ord240 := fnOkX_mk Tryz.func240 (by kernel_rfl)
def ord241 : Nat → RHint := fun _ => default
def live241 : Nat → Nat := fun n => match n with | 0 => 1 | 1 => 4 | 2 => 4 | _ => 0
theorem fok241 : fnOkX Tryz.prog xmoves xcaps 241 Tryz.f241 ord241 := fnOkX_mk Tryz.func241 (by kernel_rfl)
def ord242 : Nat → RHint := fun _ => default
def live242 : Nat → Nat := fun n => match n with | 0 => 1 | 1 => 4 | _ => 0
theorem fok242 : fnOkX Tryz.prog xmoves xcaps 242 Tryz.f242 ord242 := fnOkX_mk Tryz.func242 (by kernel_rfl)
def ord243 : Nat → RHint := fun _ => default
def live243 : Nat → Nat := fun n => match n with | 0 => 1 | 1 => 9 | 2 => 25 | 3 => 262169 | 4 => 25 | 5 => 57 | 6 => 70368744177721 | 7 => 17 | 8 => 25 | 9 => 57 | 10 => 18014398509482041 | 11 => 57 | 12 => 9671406556917033397649465 | 13 => 57 | 14 => 154742504910672534362390585 | 15 => 618970019642690137449562161 | 16 => 4 | 17 => 57 | 18 => 2475880078570760549798248497 | 19 => 4 | 20 => 57 | 21 => 4 | _ => 0
theorem fok243 : fnOkX Tryz.prog xmoves xcaps 243 Tryz.f243 ord243 := fnOkX_mk Tryz.func243 (by kernel_rfl)
def ord244 : Nat → RHint := fun _ => default
def live244 : Nat → Nat := fun n => match n with | 0 => 1 | 1 => 17 | 2 => 4 | 3 => 4 | _ => 0
theorem fok244 : fnOkX Tryz.prog xmoves xcaps 244 Tryz.f244 ord244 := fnOkX_mk Tryz.func244 (by kernel_rfl)
def ord245 : Nat → RHint := fun _ => default
def live245 : Nat → Nat := fun n => match n with | 0 => 1 | 1 => 17 | 2 => 4 | 3 => 4 | _ => 0
theorem fok245 : fnOkX Tryz.prog xmoves xcaps 245 Tryz.f245 ord245 := fnOkX_mk Tryz.func245 (by kernel_rfl)
noncomputable def ftab : FTr := (.node (.node (.node (.node (.node (.node (.node (.node .nil 2 Tryz.f2 ord2 live2 .nil) 3 Tryz.f3 ord3 live3 (.node .nil 4 Tryz.f4 ord4 live4 .nil)) 5 Tryz.f5 ord5 live5 (.node (.node .nil 6 Tryz.f6 ord6 live6 .nil) 7 Tryz.f7 ord7 live7 (.node .nil 8 Tryz.f8 ord8 live8 .nil))) 9 Tryz.f9 ord9 live9 (.node (.node (.node .nil 10 Tryz.f10 ord10 live10 .nil) 11 Tryz.f11 ord11 live11 (.node .nil 12 Tryz.f12 ord12 live12 .nil)) 13 Tryz.f13 ord13 live13 (.node (.node .nil 14 Tryz.f14 ord14 live14 .nil) 15 Tryz.f15 ord15 live15 (.node .nil 16 Tryz.f16 ord16 live16 .nil)))) 17 Tryz.f17 ord17 live17 (.node (.node (.node (.node .nil 18 Tryz.f18 ord18 live18 .nil) 19 Tryz.f19 ord19 live19 (.node .nil 20 Tryz.f20 ord20 live20 .nil)) 21 Tryz.f21 ord21 live21 (.node (.node .nil 22 Tryz.f22 ord22 live22 .nil) 23 Tryz.f23 ord23 live23 (.node .nil 24 Tryz.f24 ord24 live24 .nil))) 25 Tryz.f25 ord25 live25 (.node (.node (.node .nil 26 Tryz.f26 ord26 live26 .nil) 27 Tryz.f27 ord27 live27 (.node .nil 28 Tryz.f28 ord28 live28 .nil)) 29 Tryz.f29 ord29 live29 (.node (.node .nil 30 Tryz.f30 ord30 live30 .nil) 31 Tryz.f31 ord31 live31 .nil)))) 32 Tryz.f32 ord32 live32 (.node (.node (.node (.node (.node .nil 33 Tryz.f33 ord33 live33 .nil) 34 Tryz.f34 ord34 live34 (.node .nil 35 Tryz.f35 ord35 live35 .nil)) 36 Tryz.f36 ord36 live36 (.node (.node .nil 37 Tryz.f37 ord37 live37 .nil) 38 Tryz.f38 ord38 live38 (.node .nil 39 Tryz.f39 ord39 live39 .nil))) 40 Tryz.f40 ord40 live40 (.node (.node (.node .nil 41 Tryz.f41 ord41 live41 .nil) 42 Tryz.f42 ord42 live42 (.node .nil 43 Tryz.f43 ord43 live43 .nil)) 44 Tryz.f44 ord44 live44 (.node (.node .nil 45 Tryz.f45 ord45 live45 .nil) 46 Tryz.f46 ord46 live46 .nil))) 47 Tryz.f47 ord47 live47 (.node (.node (.node (.node .nil 48 Tryz.f48 ord48 live48 .nil) 50 Tryz.f50 ord50 live50 (.node .nil 51 Tryz.f51 ord51 live51 .nil)) 52 Tryz.f52 ord52 live52 (.node (.node .nil 53 Tryz.f53 ord53 live53 .nil) 54 Tryz.f54 ord54 live54 (.node .nil 55 Tryz.f55 ord55 live55 .nil))) 56 Tryz.f56 ord56 live56 (.node (.node (.node .nil 57 Tryz.f57 ord57 live57 .nil) 58 Tryz.f58 ord58 live58 (.node .nil 59 Tryz.f59 ord59 live59 .nil)) 60 Tryz.f60 ord60 live60 (.node (.node .nil 61 Tryz.f61 ord61 live61 .nil) 62 Tryz.f62 ord62 live62 .nil))))) 63 Tryz.f63 ord63 live63 (.node (.node (.node (.node (.node (.node .nil 64 Tryz.f64 ord64 live64 .nil) 65 Tryz.f65 ord65 live65 (.node .nil 66 Tryz.f66 ord66 live66 .nil)) 67 Tryz.f67 ord67 live67 (.node (.node .nil 68 Tryz.f68 ord68 live68 .nil) 69 Tryz.f69 ord69 live69 (.node .nil 70 Tryz.f70 ord70 live70 .nil))) 71 Tryz.f71 ord71 live71 (.node (.node (.node .nil 72 Tryz.f72 ord72 live72 .nil) 73 Tryz.f73 ord73 live73 (.node .nil 74 Tryz.f74 ord74 live74 .nil)) 75 Tryz.f75 ord75 live75 (.node (.node .nil 76 Tryz.f76 ord76 live76 .nil) 77 Tryz.f77 ord77 live77 (.node .nil 78 Tryz.f78 ord78 live78 .nil)))) 79 Tryz.f79 ord79 live79 (.node (.node (.node (.node .nil 80 Tryz.f80 ord80 live80 .nil) 81 Tryz.f81 ord81 live81 (.node .nil 82 Tryz.f82 ord82 live82 .nil)) 83 Tryz.f83 ord83 live83 (.node (.node .nil 84 Tryz.f84 ord84 live84 .nil) 85 Tryz.f85 ord85 live85 (.node .nil 86 Tryz.f86 ord86 live86 .nil))) 87 Tryz.f87 ord87 live87 (.node (.node (.node .nil 88 Tryz.f88 ord88 live88 .nil) 89 Tryz.f89 ord89 live89 (.node .nil 90 Tryz.f90 ord90 live90 .nil)) 91 Tryz.f91 ord91 live91 (.node (.node .nil 92 Tryz.f92 ord92 live92 .nil) 93 Tryz.f93 ord93 live93 .nil)))) 94 Tryz.f94 ord94 live94 (.node (.node (.node (.node (.node .nil 95 Tryz.f95 ord95 live95 .nil) 96 Tryz.f96 ord96 live96 (.node .nil 97 Tryz.f97 ord97 live97 .nil)) 98 Tryz.f98 ord98 live98 (.node (.node .nil 99 Tryz.f99 ord99 live99 .nil) 100 Tryz.f100 ord100 live100 (.node .nil 101 Tryz.f101 ord101 live101 .nil))) 102 Tryz.f102 ord102 live102 (.node (.node (.node .nil 103 Tryz.f103 ord103 live103 .nil) 104 Tryz.f104 ord104 live104 (.node .nil 105 Tryz.f105 ord105 live105 .nil)) 106 Tryz.f106 ord106 live106 (.node (.node .nil 107 Tryz.f107 ord107 live107 .nil) 108 Tryz.f108 ord108 live108 .nil))) 109 Tryz.f109 ord109 live109 (.node (.node (.node (.node .nil 110 Tryz.f110 ord110 live110 .nil) 111 Tryz.f111 ord111 live111 (.node .nil 112 Tryz.f112 ord112 live112 .nil)) 113 Tryz.f113 ord113 live113 (.node (.node .nil 114 Tryz.f114 ord114 live114 .nil) 115 Tryz.f115 ord115 live115 (.node .nil 116 Tryz.f116 ord116 live116 .nil))) 117 Tryz.f117 ord117 live117 (.node (.node (.node .nil 118 Tryz.f118 ord118 live118 .nil) 119 Tryz.f119 ord119 live119 (.node .nil 120 Tryz.f120 ord120 live120 .nil)) 121 Tryz.f121 ord121 live121 (.node (.node .nil 122 Tryz.f122 ord122 live122 .nil) 123 Tryz.f123 ord123 live123 .nil)))))) 124 Tryz.f124 ord124 live124 (.node (.node (.node (.node (.node (.node (.node .nil 125 Tryz.f125 ord125 live125 .nil) 126 Tryz.f126 ord126 live126 (.node .nil 127 Tryz.f127 ord127 live127 .nil)) 128 Tryz.f128 ord128 live128 (.node (.node .nil 129 Tryz.f129 ord129 live129 .nil) 130 Tryz.f130 ord130 live130 (.node .nil 131 Tryz.f131 ord131 live131 .nil))) 132 Tryz.f132 ord132 live132 (.node (.node (.node .nil 133 Tryz.f133 ord133 live133 .nil) 134 Tryz.f134 ord134 live134 (.node .nil 135 Tryz.f135 ord135 live135 .nil)) 136 Tryz.f136 ord136 live136 (.node (.node .nil 137 Tryz.f137 ord137 live137 .nil) 138 Tryz.f138 ord138 live138 (.node .nil 139 Tryz.f139 ord139 live139 .nil)))) 140 Tryz.f140 ord140 live140 (.node (.node (.node (.node .nil 141 Tryz.f141 ord141 live141 .nil) 142 Tryz.f142 ord142 live142 (.node .nil 143 Tryz.f143 ord143 live143 .nil)) 144 Tryz.f144 ord144 live144 (.node (.node .nil 145 Tryz.f145 ord145 live145 .nil) 146 Tryz.f146 ord146 live146 (.node .nil 147 Tryz.f147 ord147 live147 .nil))) 148 Tryz.f148 ord148 live148 (.node (.node (.node .nil 149 Tryz.f149 ord149 live149 .nil) 150 Tryz.f150 ord150 live150 (.node .nil 151 Tryz.f151 ord151 live151 .nil)) 152 Tryz.f152 ord152 live152 (.node (.node .nil 153 Tryz.f153 ord153 live153 .nil) 154 Tryz.f154 ord154 live154 .nil)))) 155 Tryz.f155 ord155 live155 (.node (.node (.node (.node (.node .nil 156 Tryz.f156 ord156 live156 .nil) 157 Tryz.f157 ord157 live157 (.node .nil 158 Tryz.f158 ord158 live158 .nil)) 159 Tryz.f159 ord159 live159 (.node (.node .nil 160 Tryz.f160 ord160 live160 .nil) 161 Tryz.f161 ord161 live161 (.node .nil 162 Tryz.f162 ord162 live162 .nil))) 163 Tryz.f163 ord163 live163 (.node (.node (.node .nil 164 Tryz.f164 ord164 live164 .nil) 165 Tryz.f165 ord165 live165 (.node .nil 166 Tryz.f166 ord166 live166 .nil)) 167 Tryz.f167 ord167 live167 (.node (.node .nil 168 Tryz.f168 ord168 live168 .nil) 169 Tryz.f169 ord169 live169 .nil))) 170 Tryz.f170 ord170 live170 (.node (.node (.node (.node .nil 171 Tryz.f171 ord171 live171 .nil) 172 Tryz.f172 ord172 live172 (.node .nil 173 Tryz.f173 ord173 live173 .nil)) 174 Tryz.f174 ord174 live174 (.node (.node .nil 175 Tryz.f175 ord175 live175 .nil) 176 Tryz.f176 ord176 live176 (.node .nil 177 Tryz.f177 ord177 live177 .nil))) 178 Tryz.f178 ord178 live178 (.node (.node (.node .nil 179 Tryz.f179 ord179 live179 .nil) 180 Tryz.f180 ord180 live180 (.node .nil 181 Tryz.f181 ord181 live181 .nil)) 182 Tryz.f182 ord182 live182 (.node (.node .nil 183 Tryz.f183 ord183 live183 .nil) 184 Tryz.f184 ord184 live184 .nil))))) 185 Tryz.f185 ord185 live185 (.node (.node (.node (.node (.node (.node .nil 186 Tryz.f186 ord186 live186 .nil) 187 Tryz.f187 ord187 live187 (.node .nil 188 Tryz.f188 ord188 live188 .nil)) 189 Tryz.f189 ord189 live189 (.node (.node .nil 191 Tryz.f191 ord191 live191 .nil) 192 Tryz.f192 ord192 live192 (.node .nil 193 Tryz.f193 ord193 live193 .nil))) 194 Tryz.f194 ord194 live194 (.node (.node (.node .nil 195 Tryz.f195 ord195 live195 .nil) 196 Tryz.f196 ord196 live196 (.node .nil 197 Tryz.f197 ord197 live197 .nil)) 198 Tryz.f198 ord198 live198 (.node (.node .nil 199 Tryz.f199 ord199 live199 .nil) 200 Tryz.f200 ord200 live200 .nil))) 201 Tryz.f201 ord201 live201 (.node (.node (.node (.node .nil 202 Tryz.f202 ord202 live202 .nil) 203 Tryz.f203 ord203 live203 (.node .nil 204 Tryz.f204 ord204 live204 .nil)) 205 Tryz.f205 ord205 live205 (.node (.node .nil 206 Tryz.f206 ord206 live206 .nil) 207 Tryz.f207 ord207 live207 (.node .nil 208 Tryz.f208 ord208 live208 .nil))) 209 Tryz.f209 ord209 live209 (.node (.node (.node .nil 210 Tryz.f210 ord210 live210 .nil) 211 Tryz.f211 ord211 live211 (.node .nil 212 Tryz.f212 ord212 live212 .nil)) 213 Tryz.f213 ord213 live213 (.node (.node .nil 214 Tryz.f214 ord214 live214 .nil) 215 Tryz.f215 ord215 live215 .nil)))) 216 Tryz.f216 ord216 live216 (.node (.node (.node (.node (.node .nil 217 Tryz.f217 ord217 live217 .nil) 218 Tryz.f218 ord218 live218 (.node .nil 219 Tryz.f219 ord219 live219 .nil)) 220 Tryz.f220 ord220 live220 (.node (.node .nil 221 Tryz.f221 ord221 live221 .nil) 222 Tryz.f222 ord222 live222 (.node .nil 223 Tryz.f223 ord223 live223 .nil))) 224 Tryz.f224 ord224 live224 (.node (.node (.node .nil 225 Tryz.f225 ord225 live225 .nil) 226 Tryz.f226 ord226 live226 (.node .nil 227 Tryz.f227 ord227 live227 .nil)) 228 Tryz.f228 ord228 live228 (.node (.node .nil 229 Tryz.f229 ord229 live229 .nil) 230 Tryz.f230 ord230 live230 .nil))) 231 Tryz.f231 ord231 live231 (.node (.node (.node (.node .nil 232 Tryz.f232 ord232 live232 .nil) 233 Tryz.f233 ord233 live233 (.node .nil 234 Tryz.f234 ord234 live234 .nil)) 235 Tryz.f235 ord235 live235 (.node (.node .nil 236 Tryz.f236 ord236 live236 .nil) 237 Tryz.f237 ord237 live237 (.node .nil 238 Tryz.f238 ord238 live238 .nil))) 239 Tryz.f239 ord239 live239 (.node (.node (.node .nil 240 Tryz.f240 ord240 live240 .nil) 241 Tryz.f241 ord241 live241 (.node .nil 242 Tryz.f242 ord242 live242 .nil)) 243 Tryz.f243 ord243 live243 (.node (.node .nil 244 Tryz.f244 ord244 live244 .nil) 245 Tryz.f245 ord245 live245 .nil)))))))
theorem ftab_ok : FOk Tryz.prog xmoves xcaps ftab.find := FTr.ok (FTr.all_node (FTr.all_node (FTr.all_node (FTr.all_node (FTr.all_node (FTr.all_node (FTr.all_node (FTr.all_node FTr.all_nil fok2 FTr.all_nil) fok3 (FTr.all_node FTr.all_nil fok4 FTr.all_nil)) fok5 (FTr.all_node (FTr.all_node FTr.all_nil fok6 FTr.all_nil) fok7 (FTr.all_node FTr.all_nil fok8 FTr.all_nil))) fok9 (FTr.all_node (FTr.all_node (FTr.all_node FTr.all_nil fok10 FTr.all_nil) fok11 (FTr.all_node FTr.all_nil fok12 FTr.all_nil)) fok13 (FTr.all_node (FTr.all_node FTr.all_nil fok14 FTr.all_nil) fok15 (FTr.all_node FTr.all_nil fok16 FTr.all_nil)))) fok17 (FTr.all_node (FTr.all_node (FTr.all_node (FTr.all_node FTr.all_nil fok18 FTr.all_nil) fok19 (FTr.all_node FTr.all_nil fok20 FTr.all_nil)) fok21 (FTr.all_node (FTr.all_node FTr.all_nil fok22 FTr.all_nil) fok23 (FTr.all_node FTr.all_nil fok24 FTr.all_nil))) fok25 (FTr.all_node (FTr.all_node (FTr.all_node FTr.all_nil fok26 FTr.all_nil) fok27 (FTr.all_node FTr.all_nil fok28 FTr.all_nil)) fok29 (FTr.all_node (FTr.all_node FTr.all_nil fok30 FTr.all_nil) fok31 FTr.all_nil)))) fok32 (FTr.all_node (FTr.all_node (FTr.all_node (FTr.all_node (FTr.all_node FTr.all_nil fok33 FTr.all_nil) fok34 (FTr.all_node FTr.all_nil fok35 FTr.all_nil)) fok36 (FTr.all_node (FTr.all_node FTr.all_nil fok37 FTr.all_nil) fok38 (FTr.all_node FTr.all_nil fok39 FTr.all_nil))) fok40 (FTr.all_node (FTr.all_node (FTr.all_node FTr.all_nil fok41 FTr.all_nil) fok42 (FTr.all_node FTr.all_nil fok43 FTr.all_nil)) fok44 (FTr.all_node (FTr.all_node FTr.all_nil fok45 FTr.all_nil) fok46 FTr.all_nil))) fok47 (FTr.all_node (FTr.all_node (FTr.all_node (FTr.all_node FTr.all_nil fok48 FTr.all_nil) fok50 (FTr.all_node FTr.all_nil fok51 FTr.all_nil)) fok52 (FTr.all_node (FTr.all_node FTr.all_nil fok53 FTr.all_nil) fok54 (FTr.all_node FTr.all_nil fok55 FTr.all_nil))) fok56 (FTr.all_node (FTr.all_node (FTr.all_node FTr.all_nil fok57 FTr.all_nil) fok58 (FTr.all_node FTr.all_nil fok59 FTr.all_nil)) fok60 (FTr.all_node (FTr.all_node FTr.all_nil fok61 FTr.all_nil) fok62 FTr.all_nil))))) fok63 (FTr.all_node (FTr.all_node (FTr.all_node (FTr.all_node (FTr.all_node (FTr.all_node FTr.all_nil fok64 FTr.all_nil) fok65 (FTr.all_node FTr.all_nil fok66 FTr.all_nil)) fok67 (FTr.all_node (FTr.all_node FTr.all_nil fok68 FTr.all_nil) fok69 (FTr.all_node FTr.all_nil fok70 FTr.all_nil))) fok71 (FTr.all_node (FTr.all_node (FTr.all_node FTr.all_nil fok72 FTr.all_nil) fok73 (FTr.all_node FTr.all_nil fok74 FTr.all_nil)) fok75 (FTr.all_node (FTr.all_node FTr.all_nil fok76 FTr.all_nil) fok77 (FTr.all_node FTr.all_nil fok78 FTr.all_nil)))) fok79 (FTr.all_node (FTr.all_node (FTr.all_node (FTr.all_node FTr.all_nil fok80 FTr.all_nil) fok81 (FTr.all_node FTr.all_nil fok82 FTr.all_nil)) fok83 (FTr.all_node (FTr.all_node FTr.all_nil fok84 FTr.all_nil) fok85 (FTr.all_node FTr.all_nil fok86 FTr.all_nil))) fok87 (FTr.all_node (FTr.all_node (FTr.all_node FTr.all_nil fok88 FTr.all_nil) fok89 (FTr.all_node FTr.all_nil fok90 FTr.all_nil)) fok91 (FTr.all_node (FTr.all_node FTr.all_nil fok92 FTr.all_nil) fok93 FTr.all_nil)))) fok94 (FTr.all_node (FTr.all_node (FTr.all_node (FTr.all_node (FTr.all_node FTr.all_nil fok95 FTr.all_nil) fok96 (FTr.all_node FTr.all_nil fok97 FTr.all_nil)) fok98 (FTr.all_node (FTr.all_node FTr.all_nil fok99 FTr.all_nil) fok100 (FTr.all_node FTr.all_nil fok101 FTr.all_nil))) fok102 (FTr.all_node (FTr.all_node (FTr.all_node FTr.all_nil fok103 FTr.all_nil) fok104 (FTr.all_node FTr.all_nil fok105 FTr.all_nil)) fok106 (FTr.all_node (FTr.all_node FTr.all_nil fok107 FTr.all_nil) fok108 FTr.all_nil))) fok109 (FTr.all_node (FTr.all_node (FTr.all_node (FTr.all_node FTr.all_nil fok110 FTr.all_nil) fok111 (FTr.all_node FTr.all_nil fok112 FTr.all_nil)) fok113 (FTr.all_node (FTr.all_node FTr.all_nil fok114 FTr.all_nil) fok115 (FTr.all_node FTr.all_nil fok116 FTr.all_nil))) fok117 (FTr.all_node (FTr.all_node (FTr.all_node FTr.all_nil fok118 FTr.all_nil) fok119 (FTr.all_node FTr.all_nil fok120 FTr.all_nil)) fok121 (FTr.all_node (FTr.all_node FTr.all_nil fok122 FTr.all_nil) fok123 FTr.all_nil)))))) fok124 (FTr.all_node (FTr.all_node (FTr.all_node (FTr.all_node (FTr.all_node (FTr.all_node (FTr.all_node FTr.all_nil fok125 FTr.all_nil) fok126 (FTr.all_node FTr.all_nil fok127 FTr.all_nil)) fok128 (FTr.all_node (FTr.all_node FTr.all_nil fok129 FTr.all_nil) fok130 (FTr.all_node FTr.all_nil fok131 FTr.all_nil))) fok132 (FTr.all_node (FTr.all_node (FTr.all_node FTr.all_nil fok133 FTr.all_nil) fok134 (FTr.all_node FTr.all_nil fok135 FTr.all_nil)) fok136 (FTr.all_node (FTr.all_node FTr.all_nil fok137 FTr.all_nil) fok138 (FTr.all_node FTr.all_nil fok139 FTr.all_nil)))) fok140 (FTr.all_node (FTr.all_node (FTr.all_node (FTr.all_node FTr.all_nil fok141 FTr.all_nil) fok142 (FTr.all_node FTr.all_nil fok143 FTr.all_nil)) fok144 (FTr.all_node (FTr.all_node FTr.all_nil fok145 FTr.all_nil) fok146 (FTr.all_node FTr.all_nil fok147 FTr.all_nil))) fok148 (FTr.all_node (FTr.all_node (FTr.all_node FTr.all_nil fok149 FTr.all_nil) fok150 (FTr.all_node FTr.all_nil fok151 FTr.all_nil)) fok152 (FTr.all_node (FTr.all_node FTr.all_nil fok153 FTr.all_nil) fok154 FTr.all_nil)))) fok155 (FTr.all_node (FTr.all_node (FTr.all_node (FTr.all_node (FTr.all_node FTr.all_nil fok156 FTr.all_nil) fok157 (FTr.all_node FTr.all_nil fok158 FTr.all_nil)) fok159 (FTr.all_node (FTr.all_node FTr.all_nil fok160 FTr.all_nil) fok161 (FTr.all_node FTr.all_nil fok162 FTr.all_nil))) fok163 (FTr.all_node (FTr.all_node (FTr.all_node FTr.all_nil fok164 FTr.all_nil) fok165 (FTr.all_node FTr.all_nil fok166 FTr.all_nil)) fok167 (FTr.all_node (FTr.all_node FTr.all_nil fok168 FTr.all_nil) fok169 FTr.all_nil))) fok170 (FTr.all_node (FTr.all_node (FTr.all_node (FTr.all_node FTr.all_nil fok171 FTr.all_nil) fok172 (FTr.all_node FTr.all_nil fok173 FTr.all_nil)) fok174 (FTr.all_node (FTr.all_node FTr.all_nil fok175 FTr.all_nil) fok176 (FTr.all_node FTr.all_nil fok177 FTr.all_nil))) fok178 (FTr.all_node (FTr.all_node (FTr.all_node FTr.all_nil fok179 FTr.all_nil) fok180 (FTr.all_node FTr.all_nil fok181 FTr.all_nil)) fok182 (FTr.all_node (FTr.all_node FTr.all_nil fok183 FTr.all_nil) fok184 FTr.all_nil))))) fok185 (FTr.all_node (FTr.all_node (FTr.all_node (FTr.all_node (FTr.all_node (FTr.all_node FTr.all_nil fok186 FTr.all_nil) fok187 (FTr.all_node FTr.all_nil fok188 FTr.all_nil)) fok189 (FTr.all_node (FTr.all_node FTr.all_nil fok191 FTr.all_nil) fok192 (FTr.all_node FTr.all_nil fok193 FTr.all_nil))) fok194 (FTr.all_node (FTr.all_node (FTr.all_node FTr.all_nil fok195 FTr.all_nil) fok196 (FTr.all_node FTr.all_nil fok197 FTr.all_nil)) fok198 (FTr.all_node (FTr.all_node FTr.all_nil fok199 FTr.all_nil) fok200 FTr.all_nil))) fok201 (FTr.all_node (FTr.all_node (FTr.all_node (FTr.all_node FTr.all_nil fok202 FTr.all_nil) fok203 (FTr.all_node FTr.all_nil fok204 FTr.all_nil)) fok205 (FTr.all_node (FTr.all_node FTr.all_nil fok206 FTr.all_nil) fok207 (FTr.all_node FTr.all_nil fok208 FTr.all_nil))) fok209 (FTr.all_node (FTr.all_node (FTr.all_node FTr.all_nil fok210 FTr.all_nil) fok211 (FTr.all_node FTr.all_nil fok212 FTr.all_nil)) fok213 (FTr.all_node (FTr.all_node FTr.all_nil fok214 FTr.all_nil) fok215 FTr.all_nil)))) fok216 (FTr.all_node (FTr.all_node (FTr.all_node (FTr.all_node (FTr.all_node FTr.all_nil fok217 FTr.all_nil) fok218 (FTr.all_node FTr.all_nil fok219 FTr.all_nil)) fok220 (FTr.all_node (FTr.all_node FTr.all_nil fok221 FTr.all_nil) fok222 (FTr.all_node FTr.all_nil fok223 FTr.all_nil))) fok224 (FTr.all_node (FTr.all_node (FTr.all_node FTr.all_nil fok225 FTr.all_nil) fok226 (FTr.all_node FTr.all_nil fok227 FTr.all_nil)) fok228 (FTr.all_node (FTr.all_node FTr.all_nil fok229 FTr.all_nil) fok230 FTr.all_nil))) fok231 (FTr.all_node (FTr.all_node (FTr.all_node (FTr.all_node FTr.all_nil fok232 FTr.all_nil) fok233 (FTr.all_node FTr.all_nil fok234 FTr.all_nil)) fok235 (FTr.all_node (FTr.all_node FTr.all_nil fok236 FTr.all_nil) fok237 (FTr.all_node FTr.all_nil fok238 FTr.all_nil))) fok239 (FTr.all_node (FTr.all_node (FTr.all_node FTr.all_nil fok240 FTr.all_nil) fok241 (FTr.all_node FTr.all_nil fok242 FTr.all_nil)) fok243 (FTr.all_node (FTr.all_node FTr.all_nil fok244 FTr.all_nil) fok245 FTr.all_nil)))))))
end Go.Proofs.YteanmfacikjjhaaGreatDoor
