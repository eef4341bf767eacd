/- The table of functions, for code that is run to its end. Made by genx2.py. -/
import Derived.Test.YteanmfacikjjhaaGreatDoorEnv
import Derived.Test.YteanmfacikjjhaaGreatDoorTpFrun2
namespace Go.Proofs.YteanmfacikjjhaaGreatDoor
open Go.Tp
set_option maxRecDepth 100000

def ymoves : FuncId → Bool := fun f => match f with | 172 => true | _ => false
def ycaps : FuncId → Bool := fun f => match f with | 144 => true | 1000105 => true | 1000115 => true | 1000136 => true | 2000163 => true | 3000018 => true | 3000020 => true | 3000030 => true | 3000031 => true | 3000046 => true | 3000048 => true | 3000115 => true | 3000177 => true | _ => false
def yord2 : Nat → RHint := fun _ => default
def ylive2 : Nat → Nat := fun n => match n with | 0 => 0 | _ => 0
theorem yfok2 : fnOkX Tryz.prog ymoves ycaps 2 Tryz.f2 yord2 := fnOkX_mk Tryz.func2 (by kernel_rfl)
def yord3 : Nat → RHint := fun n => match n with | 12 => ⟨[(0, false), (1, false), (2, false), (4, false), (5, false), (3, true), (6, true), (7, true), (8, false), (9, false), (10, false), (11, true), (12, false), (13, false), (14, false), (15, false), (16, false), (17, false), (18, true), (19, false), (20, false), (21, false), (22, false), (23, false), (24, false), (25, true), (26, false), (27, false)], none, [], []⟩ | _ => default
def ylive3 : Nat → Nat := fun n => match n with | 0 => 1 | 1 => 9 | 2 => 32777 | 3 => 4 | 4 => 25 | 5 => 57 | 6 => 131129 | 7 => 57 | 8 => 121 | 9 => 121 | 10 => 57 | 11 => 153 | 12 => 1152921504606846985 | 13 => 4 | 14 => 9223372036854775817 | 15 => 265 | 16 => 37778931862957161709577 | 17 => 4 | 18 => 4 | _ => 0
theorem yfok3 : fnOkX Tryz.prog ymoves ycaps 3 Tryz.f3 yord3 := fnOkX_mk Tryz.func3 (by kernel_rfl)
def yord4 : Nat → RHint := fun n => match n with | 5 => ⟨[(0, false), (1, false), (2, false), (3, false), (4, false), (5, false), (6, false), (7, false), (8, false), (9, false), (10, false)], none, [], [11]⟩ | 7 => ⟨[(0, false), (1, false), (2, false), (3, false), (4, false), (5, false), (6, false), (7, false), (8, true)], none, [], [9]⟩ | _ => default
def ylive4 : Nat → Nat := fun n => match n with | 0 => 1 | 1 => 9 | 2 => 114696 | 3 => 245768 | 4 => 114728 | 5 => 114856 | 6 => 2147598376 | 7 => 114696 | 8 => 114696 | 9 => 4 | _ => 0
theorem yfok4 : fnOkX Tryz.prog ymoves ycaps 4 Tryz.f4 yord4 := fnOkX_mk Tryz.func4 (by kernel_rfl)
def yord5 : Nat → RHint := fun _ => default
def ylive5 : Nat → Nat := fun n => match n with | 0 => 0 | 1 => 2 | 2 => 134217730 | 3 => 1 | 4 => 14 | 5 => 1 | _ => 0
theorem yfok5 : fnOkX Tryz.prog ymoves ycaps 5 Tryz.f5 yord5 := fnOkX_mk Tryz.func5 (by kernel_rfl)
def yord6 : Nat → RHint := fun _ => default
def ylive6 : Nat → Nat := fun n => match n with | 0 => 22 | 1 => 16 | _ => 0
theorem yfok6 : fnOkX Tryz.prog ymoves ycaps 6 Tryz.f6 yord6 := fnOkX_mk Tryz.func6 (by kernel_rfl)
def yord7 : Nat → RHint := fun _ => default
def ylive7 : Nat → Nat := fun n => match n with | 0 => 19 | 1 => 16 | _ => 0
theorem yfok7 : fnOkX Tryz.prog ymoves ycaps 7 Tryz.f7 yord7 := fnOkX_mk Tryz.func7 (by kernel_rfl)
def yord8 : Nat → RHint := fun _ => default
def ylive8 : Nat → Nat := fun n => match n with | 0 => 1 | 1 => 17 | 2 => 4 | 3 => 4 | _ => 0
theorem yfok8 : fnOkX Tryz.prog ymoves ycaps 8 Tryz.f8 yord8 := fnOkX_mk Tryz.func8 (by kernel_rfl)
def yord9 : Nat → RHint := fun n => match n with | 3 => ⟨[(0, false), (1, false), (2, false), (3, false), (5, false), (6, false), (7, false), (8, false), (9, false), (10, false), (11, false), (12, false), (13, false), (4, true), (14, false)], none, [], [15, 16]⟩ | 14 => ⟨[(0, false), (1, false), (2, false), (3, false), (4, false), (5, false)], none, [], [6]⟩ | 16 => ⟨[(0, false), (1, false), (2, false), (3, false), (4, false), (5, false), (6, false), (7, false), (8, false), (9, false), (10, false), (11, false), (12, false), (13, false), (14, false), (15, false), (16, false), (17, false), (18, false), (19, true), (20, false), (21, false), (22, false), (23, true), (24, false), (25, false), (26, false), (27, true)], none, [], []⟩ | _ => default
def ylive9 : Nat → Nat := fun n => match n with | 0 => 3 | 1 => 32771 | 2 => 16 | 3 => 35 | 4 => 30064771105 | 5 => 64424509473 | 6 => 30064771233 | 7 => 30064771361 | 8 => 4428111282465 | 9 => 16 | 10 => 30064771105 | 11 => 7881299347898401 | 12 => 16888498602639393 | 13 => 7881299347899425 | 14 => 7881299347898401 | 15 => 7881299347898401 | 16 => 0 | 17 => 16 | _ => 0
theorem yfok9 : fnOkX Tryz.prog ymoves ycaps 9 Tryz.f9 yord9 := fnOkX_mk Tryz.func9 (by kernel_rfl)
def yord10 : Nat → RHint := fun _ => default
def ylive10 : Nat → Nat := fun n => match n with | 0 => 1 | 1 => 9 | 2 => 7176 | 3 => 15368 | 4 => 7208 | 5 => 7176 | 6 => 7176 | 7 => 4 | _ => 0
theorem yfok10 : fnOkX Tryz.prog ymoves ycaps 10 Tryz.f10 yord10 := fnOkX_mk Tryz.func10 (by kernel_rfl)
def yord11 : Nat → RHint := fun _ => default
def ylive11 : Nat → Nat := fun n => match n with | 0 => 1 | 1 => 4 | _ => 0
theorem yfok11 : fnOkX Tryz.prog ymoves ycaps 11 Tryz.f11 yord11 := fnOkX_mk Tryz.func11 (by kernel_rfl)
def yord12 : Nat → RHint := fun _ => default
def ylive12 : Nat → Nat := fun n => match n with | 0 => 0 | 1 => 2 | 2 => 898 | 3 => 1922 | 4 => 906 | 5 => 898 | 6 => 898 | 7 => 1 | _ => 0
theorem yfok12 : fnOkX Tryz.prog ymoves ycaps 12 Tryz.f12 yord12 := fnOkX_mk Tryz.func12 (by kernel_rfl)
def yord13 : Nat → RHint := fun n => match n with | 5 => ⟨[(0, false), (1, false), (3, false), (4, false), (6, false), (7, false), (2, true), (9, false), (5, true), (8, true)], none, [], [10, 11, 12, 13, 14]⟩ | _ => default
def ylive13 : Nat → Nat := fun n => match n with | 0 => 1 | 1 => 9 | 2 => 456 | 3 => 968 | 4 => 488 | 5 => 488 | 6 => 456 | 7 => 456 | 8 => 4 | _ => 0
theorem yfok13 : fnOkX Tryz.prog ymoves ycaps 13 Tryz.f13 yord13 := fnOkX_mk Tryz.func13 (by kernel_rfl)
def yord14 : Nat → RHint := fun _ => default
def ylive14 : Nat → Nat := fun n => match n with | 0 => 7 | 1 => 135 | 2 => 114823 | 3 => 245895 | 4 => 115335 | 5 => 8590049927 | 6 => 114823 | 7 => 114823 | 8 => 64 | _ => 0
theorem yfok14 : fnOkX Tryz.prog ymoves ycaps 14 Tryz.f14 yord14 := fnOkX_mk Tryz.func14 (by kernel_rfl)
def yord15 : Nat → RHint := fun _ => default
def ylive15 : Nat → Nat := fun n => match n with | 0 => 5 | 1 => 4 | _ => 0
theorem yfok15 : fnOkX Tryz.prog ymoves ycaps 15 Tryz.f15 yord15 := fnOkX_mk Tryz.func15 (by kernel_rfl)
def yord16 : Nat → RHint := fun _ => default
def ylive16 : Nat → Nat := fun n => match n with | 0 => 19 | 1 => 16 | _ => 0
theorem yfok16 : fnOkX Tryz.prog ymoves ycaps 16 Tryz.f16 yord16 := fnOkX_mk Tryz.func16 (by kernel_rfl)
def yord17 : Nat → RHint := fun _ => default
def ylive17 : Nat → Nat := fun n => match n with | 0 => 1 | 1 => 9 | 2 => 2057 | 3 => 4 | 4 => 4 | _ => 0
theorem yfok17 : fnOkX Tryz.prog ymoves ycaps 17 Tryz.f17 yord17 := fnOkX_mk Tryz.func17 (by kernel_rfl)
def yord18 : Nat → RHint := fun n => match n with | 1 => ⟨[(0, false), (1, false), (3, false), (4, false), (6, false), (7, false), (2, true), (5, true)], none, [], [8, 9, 10]⟩ | _ => default
def ylive18 : Nat → Nat := fun n => match n with | 0 => 6 | 1 => 4 | _ => 0
theorem yfok18 : fnOkX Tryz.prog ymoves ycaps 18 Tryz.f18 yord18 := fnOkX_mk Tryz.func18 (by kernel_rfl)
def yord19 : Nat → RHint := fun _ => default
def ylive19 : Nat → Nat := fun n => match n with | 0 => 9 | 1 => 73 | 2 => 201 | 3 => 16 | 4 => 8265 | 5 => 16 | 6 => 1048649 | 7 => 16 | 8 => 33554505 | 9 => 16 | 10 => 2147483657 | 11 => 16 | 12 => 16 | _ => 0
theorem yfok19 : fnOkX Tryz.prog ymoves ycaps 19 Tryz.f19 yord19 := fnOkX_mk Tryz.func19 (by kernel_rfl)
def yord20 : Nat → RHint := fun _ => default
def ylive20 : Nat → Nat := fun n => match n with | 0 => 1 | 1 => 9 | 2 => 3592 | 3 => 7688 | 4 => 3624 | 5 => 3592 | 6 => 3592 | 7 => 4 | _ => 0
theorem yfok20 : fnOkX Tryz.prog ymoves ycaps 20 Tryz.f20 yord20 := fnOkX_mk Tryz.func20 (by kernel_rfl)
def yord21 : Nat → RHint := fun n => match n with | 14 => ⟨[(0, false), (1, false), (2, true)], none, [], [3]⟩ | _ => default
def ylive21 : Nat → Nat := fun n => match n with | 0 => 12 | 1 => 108 | 2 => 65644 | 3 => 16 | 4 => 1048684 | 5 => 16 | 6 => 1073741900 | 7 => 16 | 8 => 137438953484 | 9 => 16 | 10 => 549755813900 | 11 => 16 | 12 => 70368744177676 | 13 => 16 | 14 => 12 | 15 => 576460752303423500 | 16 => 0 | 17 => 16 | 18 => 140 | 19 => 151115727451828646838276 | 20 => 0 | 21 => 16 | 22 => 16 | _ => 0
theorem yfok21 : fnOkX Tryz.prog ymoves ycaps 21 Tryz.f21 yord21 := fnOkX_mk Tryz.func21 (by kernel_rfl)
def yord22 : Nat → RHint := fun n => match n with | 1 => ⟨[(0, false), (1, false), (3, false), (4, false), (2, true), (6, false), (5, true)], none, [], [7, 8, 9]⟩ | _ => default
def ylive22 : Nat → Nat := fun n => match n with | 0 => 6 | 1 => 6 | 2 => 4 | _ => 0
theorem yfok22 : fnOkX Tryz.prog ymoves ycaps 22 Tryz.f22 yord22 := fnOkX_mk Tryz.func22 (by kernel_rfl)
def yord23 : Nat → RHint := fun n => match n with | 1 => ⟨[(0, false), (1, false), (2, false), (3, false), (4, false), (5, false), (6, false), (7, false), (8, false), (9, false), (10, false)], none, [], [11]⟩ | 2 => ⟨[(0, false), (1, false), (2, false), (3, false), (4, false), (5, false), (6, false), (7, true), (8, false), (9, false)], none, [4], [10]⟩ | _ => default
def ylive23 : Nat → Nat := fun n => match n with | 0 => 9 | 1 => 9 | 2 => 0 | _ => 0
theorem yfok23 : fnOkX Tryz.prog ymoves ycaps 23 Tryz.f23 yord23 := fnOkX_mk Tryz.func23 (by kernel_rfl)
def yord24 : Nat → RHint := fun n => match n with | 7 => ⟨[(0, false), (1, false), (2, false), (3, false), (4, false), (5, false), (6, true), (7, false), (8, false), (9, true), (10, false)], none, [1], [11]⟩ | _ => default
def ylive24 : Nat → Nat := fun n => match n with | 0 => 6 | 1 => 14 | 2 => 14 | 3 => 14 | 4 => 57356 | 5 => 122892 | 6 => 57388 | 7 => 57356 | 8 => 57356 | 9 => 4 | _ => 0
theorem yfok24 : fnOkX Tryz.prog ymoves ycaps 24 Tryz.f24 yord24 := fnOkX_mk Tryz.func24 (by kernel_rfl)
def yord25 : Nat → RHint := fun _ => default
def ylive25 : Nat → Nat := fun n => match n with | 0 => 6 | 1 => 4 | _ => 0
theorem yfok25 : fnOkX Tryz.prog ymoves ycaps 25 Tryz.f25 yord25 := fnOkX_mk Tryz.func25 (by kernel_rfl)
def yord26 : Nat → RHint := fun n => match n with | 5 => ⟨[(0, false), (1, false), (3, false), (4, false), (6, false), (7, false), (2, true), (9, false), (5, true), (8, true)], none, [], [10, 11, 12, 13, 14]⟩ | 11 => ⟨[(0, false), (1, false), (2, false), (3, true), (4, false), (5, true), (6, false)], none, [1], [7]⟩ | _ => default
def ylive26 : Nat → Nat := fun n => match n with | 0 => 6 | 1 => 14 | 2 => 114702 | 3 => 245774 | 4 => 114734 | 5 => 114734 | 6 => 114702 | 7 => 114702 | 8 => 7696581394444 | 9 => 16492674416652 | 10 => 7696581394572 | 11 => 7696581394444 | 12 => 7696581394444 | 13 => 4 | _ => 0
theorem yfok26 : fnOkX Tryz.prog ymoves ycaps 26 Tryz.f26 yord26 := fnOkX_mk Tryz.func26 (by kernel_rfl)
def yord27 : Nat → RHint := fun _ => default
def ylive27 : Nat → Nat := fun n => match n with | 0 => 3 | 1 => 16 | _ => 0
theorem yfok27 : fnOkX Tryz.prog ymoves ycaps 27 Tryz.f27 yord27 := fnOkX_mk Tryz.func27 (by kernel_rfl)
def yord28 : Nat → RHint := fun _ => default
def ylive28 : Nat → Nat := fun n => match n with | 0 => 6 | 1 => 16 | _ => 0
theorem yfok28 : fnOkX Tryz.prog ymoves ycaps 28 Tryz.f28 yord28 := fnOkX_mk Tryz.func28 (by kernel_rfl)
def yord29 : Nat → RHint := fun n => match n with | 1 => ⟨[(0, false), (2, false), (3, false), (4, false), (5, false), (1, true)], none, [], [6, 7, 8, 9]⟩ | _ => default
def ylive29 : Nat → Nat := fun n => match n with | 0 => 1 | 1 => 4 | _ => 0
theorem yfok29 : fnOkX Tryz.prog ymoves ycaps 29 Tryz.f29 yord29 := fnOkX_mk Tryz.func29 (by kernel_rfl)
def yord30 : Nat → RHint := fun _ => default
def ylive30 : Nat → Nat := fun n => match n with | 0 => 1 | 1 => 17 | 2 => 4 | 3 => 4 | _ => 0
theorem yfok30 : fnOkX Tryz.prog ymoves ycaps 30 Tryz.f30 yord30 := fnOkX_mk Tryz.func30 (by kernel_rfl)
def yord31 : Nat → RHint := fun _ => default
def ylive31 : Nat → Nat := fun n => match n with | 0 => 1 | 1 => 17 | 2 => 4 | 3 => 4 | _ => 0
theorem yfok31 : fnOkX Tryz.prog ymoves ycaps 31 Tryz.f31 yord31 := fnOkX_mk Tryz.func31 (by kernel_rfl)
def yord32 : Nat → RHint := fun n => match n with | 1 => ⟨[(1, false), (0, true)], none, [], [2, 3]⟩ | 4 => ⟨[(0, false), (1, false), (2, false), (3, false), (4, false), (5, false), (6, false), (11, false), (7, true), (8, false), (9, false), (10, false)], some 11, [], [12, 13]⟩ | 6 => ⟨[(0, false), (1, false), (2, false), (3, false), (4, false), (5, false), (10, false), (6, true), (7, false), (8, false), (9, false)], some 10, [], [11, 12]⟩ | 17 => ⟨[(0, false), (1, false), (2, false), (3, false), (4, false), (5, false)], none, [], [6, 7]⟩ | _ => default
def ylive32 : Nat → Nat := fun n => match n with | 0 => 9 | 1 => 41 | 2 => 4194345 | 3 => 16 | 4 => 201 | 5 => 34359738441 | 6 => 832 | 7 => 9007199254741504 | 8 => 512 | 9 => 16 | 10 => 1033 | 11 => 3081 | 12 => 36893488147419106313 | 13 => 16 | 14 => 12289 | 15 => 18889465931478580867073 | 16 => 16 | 17 => 16 | _ => 0
theorem yfok32 : fnOkX Tryz.prog ymoves ycaps 32 Tryz.f32 yord32 := fnOkX_mk Tryz.func32 (by kernel_rfl)
def yord33 : Nat → RHint := fun n => match n with | 6 => ⟨[(0, false), (1, false), (2, false), (3, false), (4, false), (5, false), (6, false), (11, false), (7, true), (8, false), (9, false), (10, false)], some 11, [], [12, 13]⟩ | 11 => ⟨[(0, false), (1, false), (2, false), (3, false), (4, false), (5, false), (6, false), (11, false), (7, true), (8, false), (9, false), (10, false)], some 11, [], [12, 13]⟩ | 15 => ⟨[(0, false), (1, false), (2, false), (3, false), (4, false), (5, false), (6, false), (7, false), (8, false), (9, false), (10, false), (11, false), (12, false), (13, false), (14, false), (15, false), (16, false), (17, false)], none, [], [18]⟩ | 20 => ⟨[(0, false), (1, false), (2, false), (3, false), (4, false), (5, false), (6, false), (7, false), (8, false), (9, false), (10, false), (11, false)], none, [], [12]⟩ | 21 => ⟨[(0, false), (1, false), (2, false), (3, false), (4, false), (5, false), (6, false), (7, false), (8, false), (9, false), (10, false), (11, false), (12, false), (13, false), (14, false), (15, false), (16, false), (17, false), (18, false), (19, false), (20, false), (21, false), (22, false), (23, false), (24, false), (25, false), (26, true), (27, false), (28, false), (29, false)], none, [5], [30]⟩ | _ => default
def ylive33 : Nat → Nat := fun n => match n with | 0 => 21 | 1 => 8589934613 | 2 => 64 | 3 => 149 | 4 => 274877907093 | 5 => 64 | 6 => 789 | 7 => 4503599627371285 | 8 => 64 | 9 => 288230376151712021 | 10 => 64 | 11 => 1813 | 12 => 2361183241434822608661 | 13 => 64 | 14 => 3349 | 15 => 302231454903657293679893 | 16 => 64 | 17 => 158456325028528675187087904021 | 18 => 64 | 19 => 40564819207303340847894502575381 | 20 => 1301 | 21 => 0 | 22 => 64 | _ => 0
theorem yfok33 : fnOkX Tryz.prog ymoves ycaps 33 Tryz.f33 yord33 := fnOkX_mk Tryz.func33 (by kernel_rfl)
def yord34 : Nat → RHint := fun n => match n with | 1 => ⟨[(0, false), (1, false), (2, false), (3, false), (4, false), (5, false), (6, false), (11, false), (7, true), (8, false), (9, false), (10, false)], some 11, [], [12, 13]⟩ | 7 => ⟨[(0, false), (1, false), (2, false), (3, false), (4, false), (5, false), (6, false), (7, false), (8, false), (9, false), (10, false), (11, false)], none, [], [12]⟩ | _ => default
def ylive34 : Nat → Nat := fun n => match n with | 0 => 9 | 1 => 105 | 2 => 1048681 | 3 => 16 | 4 => 129 | 5 => 268435585 | 6 => 16 | 7 => 0 | 8 => 16 | _ => 0
theorem yfok34 : fnOkX Tryz.prog ymoves ycaps 34 Tryz.f34 yord34 := fnOkX_mk Tryz.func34 (by kernel_rfl)
def yord35 : Nat → RHint := fun _ => default
def ylive35 : Nat → Nat := fun n => match n with | 0 => 3 | 1 => 99 | 2 => 524323 | 3 => 16 | 4 => 4194339 | 5 => 16 | 6 => 7516192771 | 7 => 16106127363 | 8 => 7516193027 | 9 => 7516193539 | 10 => 144955147011 | 11 => 419833053955 | 12 => 7516193283 | 13 => 17599702237955 | 14 => 7516193283 | 15 => 2251807329878531 | 16 => 16 | 17 => 7516192771 | 18 => 0 | 19 => 16 | _ => 0
theorem yfok35 : fnOkX Tryz.prog ymoves ycaps 35 Tryz.f35 yord35 := fnOkX_mk Tryz.func35 (by kernel_rfl)
def yord36 : Nat → RHint := fun n => match n with | 7 => ⟨[(0, false), (1, false), (2, false), (3, false), (4, false), (5, false), (6, false), (7, false), (8, false), (9, false), (10, false), (11, false)], none, [], [12]⟩ | _ => default
def ylive36 : Nat → Nat := fun n => match n with | 0 => 3 | 1 => 16387 | 2 => 16 | 3 => 3670019 | 4 => 7864323 | 5 => 3670115 | 6 => 17183539235 | 7 => 3670019 | 8 => 3670019 | 9 => 0 | 10 => 16 | _ => 0
theorem yfok36 : fnOkX Tryz.prog ymoves ycaps 36 Tryz.f36 yord36 := fnOkX_mk Tryz.func36 (by kernel_rfl)
def yord37 : Nat → RHint := fun n => match n with | 7 => ⟨[(0, false), (1, false), (2, false), (3, false), (4, false), (5, false), (6, true), (7, false), (8, false), (9, true), (10, false)], none, [1], [11]⟩ | _ => default
def ylive37 : Nat → Nat := fun n => match n with | 0 => 6 | 1 => 14 | 2 => 14 | 3 => 14 | 4 => 57356 | 5 => 122892 | 6 => 57388 | 7 => 57356 | 8 => 57356 | 9 => 4 | _ => 0
theorem yfok37 : fnOkX Tryz.prog ymoves ycaps 37 Tryz.f37 yord37 := fnOkX_mk Tryz.func37 (by kernel_rfl)
def yord38 : Nat → RHint := fun _ => default
def ylive38 : Nat → Nat := fun n => match n with | 0 => 19 | 1 => 209 | 2 => 262225 | 3 => 48 | 4 => 48 | _ => 0
theorem yfok38 : fnOkX Tryz.prog ymoves ycaps 38 Tryz.f38 yord38 := fnOkX_mk Tryz.func38 (by kernel_rfl)
def yord39 : Nat → RHint := fun _ => default
def ylive39 : Nat → Nat := fun n => match n with | 0 => 2 | 1 => 2147483650 | 2 => 4 | 3 => 562949953421314 | 4 => 4 | 5 => 10 | 6 => 31525197391593482 | 7 => 67553994410557450 | 8 => 31525197391593514 | 9 => 37778963388154553303082 | 10 => 4 | 11 => 31525197391593482 | 12 => 31525197391593482 | 13 => 4 | _ => 0
theorem yfok39 : fnOkX Tryz.prog ymoves ycaps 39 Tryz.f39 yord39 := fnOkX_mk Tryz.func39 (by kernel_rfl)
def yord40 : Nat → RHint := fun _ => default
def ylive40 : Nat → Nat := fun n => match n with | 0 => 12 | 1 => 44 | 2 => 16 | _ => 0
theorem yfok40 : fnOkX Tryz.prog ymoves ycaps 40 Tryz.f40 yord40 := fnOkX_mk Tryz.func40 (by kernel_rfl)
def yord41 : Nat → RHint := fun _ => default
def ylive41 : Nat → Nat := fun n => match n with | 0 => 12 | 1 => 8204 | 2 => 16 | 3 => 16 | _ => 0
theorem yfok41 : fnOkX Tryz.prog ymoves ycaps 41 Tryz.f41 yord41 := fnOkX_mk Tryz.func41 (by kernel_rfl)
def yord42 : Nat → RHint := fun _ => default
def ylive42 : Nat → Nat := fun n => match n with | 0 => 3 | 1 => 16 | _ => 0
theorem yfok42 : fnOkX Tryz.prog ymoves ycaps 42 Tryz.f42 yord42 := fnOkX_mk Tryz.func42 (by kernel_rfl)
def yord43 : Nat → RHint := fun _ => default
def ylive43 : Nat → Nat := fun n => match n with | 0 => 6 | 1 => 8 | _ => 0
theorem yfok43 : fnOkX Tryz.prog ymoves ycaps 43 Tryz.f43 yord43 := fnOkX_mk Tryz.func43 (by kernel_rfl)
def yord44 : Nat → RHint := fun n => match n with | 1 => ⟨[(0, false), (1, false), (2, false), (3, false), (4, false), (5, false), (6, false), (7, false), (8, false), (9, false), (10, false), (11, false)], none, [], [12]⟩ | _ => default
def ylive44 : Nat → Nat := fun n => match n with | 0 => 5 | 1 => 5 | 2 => 0 | _ => 0
theorem yfok44 : fnOkX Tryz.prog ymoves ycaps 44 Tryz.f44 yord44 := fnOkX_mk Tryz.func44 (by kernel_rfl)
def yord45 : Nat → RHint := fun _ => default
def ylive45 : Nat → Nat := fun n => match n with | 0 => 28 | 1 => 16 | _ => 0
theorem yfok45 : fnOkX Tryz.prog ymoves ycaps 45 Tryz.f45 yord45 := fnOkX_mk Tryz.func45 (by kernel_rfl)
def yord46 : Nat → RHint := fun _ => default
def ylive46 : Nat → Nat := fun n => match n with | 0 => 1 | 1 => 17 | 2 => 4 | 3 => 4 | _ => 0
theorem yfok46 : fnOkX Tryz.prog ymoves ycaps 46 Tryz.f46 yord46 := fnOkX_mk Tryz.func46 (by kernel_rfl)
def yord47 : Nat → RHint := fun n => match n with | 6 => ⟨[(0, false), (1, false), (2, false), (3, true), (4, false), (5, true), (6, false)], none, [1], [7]⟩ | _ => default
def ylive47 : Nat → Nat := fun n => match n with | 0 => 6 | 1 => 14 | 2 => 14 | 3 => 3596 | 4 => 7692 | 5 => 3628 | 6 => 3596 | 7 => 3596 | 8 => 4 | _ => 0
theorem yfok47 : fnOkX Tryz.prog ymoves ycaps 47 Tryz.f47 yord47 := fnOkX_mk Tryz.func47 (by kernel_rfl)
def yord48 : Nat → RHint := fun _ => default
def ylive48 : Nat → Nat := fun n => match n with | 0 => 1 | 1 => 17 | 2 => 4 | 3 => 4 | _ => 0
theorem yfok48 : fnOkX Tryz.prog ymoves ycaps 48 Tryz.f48 yord48 := fnOkX_mk Tryz.func48 (by kernel_rfl)
def yord50 : Nat → RHint := fun _ => default
def ylive50 : Nat → Nat := fun n => match n with | 0 => 19 | 1 => 208 | 2 => 48 | _ => 0
theorem yfok50 : fnOkX Tryz.prog ymoves ycaps 50 Tryz.f50 yord50 := fnOkX_mk Tryz.func50 (by kernel_rfl)
def yord51 : Nat → RHint := fun _ => default
def ylive51 : Nat → Nat := fun n => match n with | 0 => 25 | 1 => 217 | 2 => 4194521 | 3 => 48 | 4 => 345 | 5 => 281 | 6 => 281 | 7 => 7516193041 | 8 => 16106127633 | 9 => 7516194065 | 10 => 7516196113 | 11 => 282394103057 | 12 => 7516196113 | 13 => 7516206353 | 14 => 281482492917009 | 15 => 48 | 16 => 7516193041 | 17 => 7516193041 | 18 => 48 | _ => 0
theorem yfok51 : fnOkX Tryz.prog ymoves ycaps 51 Tryz.f51 yord51 := fnOkX_mk Tryz.func51 (by kernel_rfl)
def yord52 : Nat → RHint := fun _ => default
def ylive52 : Nat → Nat := fun n => match n with | 0 => 12 | 1 => 44 | 2 => 16 | _ => 0
theorem yfok52 : fnOkX Tryz.prog ymoves ycaps 52 Tryz.f52 yord52 := fnOkX_mk Tryz.func52 (by kernel_rfl)
def yord53 : Nat → RHint := fun _ => default
def ylive53 : Nat → Nat := fun n => match n with | 0 => 1 | 1 => 4 | _ => 0
theorem yfok53 : fnOkX Tryz.prog ymoves ycaps 53 Tryz.f53 yord53 := fnOkX_mk Tryz.func53 (by kernel_rfl)
def yord54 : Nat → RHint := fun _ => default
def ylive54 : Nat → Nat := fun n => match n with | 0 => 2 | 1 => 4 | _ => 0
theorem yfok54 : fnOkX Tryz.prog ymoves ycaps 54 Tryz.f54 yord54 := fnOkX_mk Tryz.func54 (by kernel_rfl)
def yord55 : Nat → RHint := fun _ => default
def ylive55 : Nat → Nat := fun n => match n with | 0 => 25 | 1 => 89 | 2 => 2137 | 3 => 48 | 4 => 65561 | 5 => 48 | 6 => 2097177 | 7 => 48 | 8 => 153 | 9 => 17179869209 | 10 => 48 | 11 => 401 | 12 => 4398046511377 | 13 => 48 | 14 => 140737488355601 | 15 => 48 | 16 => 272 | 17 => 272 | 18 => 48 | _ => 0
theorem yfok55 : fnOkX Tryz.prog ymoves ycaps 55 Tryz.f55 yord55 := fnOkX_mk Tryz.func55 (by kernel_rfl)
def yord56 : Nat → RHint := fun _ => default
def ylive56 : Nat → Nat := fun n => match n with | 0 => 12 | 1 => 104 | 2 => 16 | _ => 0
theorem yfok56 : fnOkX Tryz.prog ymoves ycaps 56 Tryz.f56 yord56 := fnOkX_mk Tryz.func56 (by kernel_rfl)
def yord57 : Nat → RHint := fun _ => default
def ylive57 : Nat → Nat := fun n => match n with | 0 => 25 | 1 => 81 | 2 => 114769 | 3 => 245841 | 4 => 115153 | 5 => 268550609 | 6 => 116433 | 7 => 137439069905 | 8 => 48 | 9 => 114769 | 10 => 114769 | 11 => 48 | _ => 0
theorem yfok57 : fnOkX Tryz.prog ymoves ycaps 57 Tryz.f57 yord57 := fnOkX_mk Tryz.func57 (by kernel_rfl)
def yord58 : Nat → RHint := fun _ => default
def ylive58 : Nat → Nat := fun n => match n with | 0 => 56 | 1 => 64 | _ => 0
theorem yfok58 : fnOkX Tryz.prog ymoves ycaps 58 Tryz.f58 yord58 := fnOkX_mk Tryz.func58 (by kernel_rfl)
def yord59 : Nat → RHint := fun _ => default
def ylive59 : Nat → Nat := fun n => match n with | 0 => 6 | 1 => 4 | _ => 0
theorem yfok59 : fnOkX Tryz.prog ymoves ycaps 59 Tryz.f59 yord59 := fnOkX_mk Tryz.func59 (by kernel_rfl)
def yord60 : Nat → RHint := fun _ => default
def ylive60 : Nat → Nat := fun n => match n with | 0 => 3 | 1 => 16 | _ => 0
theorem yfok60 : fnOkX Tryz.prog ymoves ycaps 60 Tryz.f60 yord60 := fnOkX_mk Tryz.func60 (by kernel_rfl)
def yord61 : Nat → RHint := fun _ => default
def ylive61 : Nat → Nat := fun n => match n with | 0 => 12 | 1 => 16 | _ => 0
theorem yfok61 : fnOkX Tryz.prog ymoves ycaps 61 Tryz.f61 yord61 := fnOkX_mk Tryz.func61 (by kernel_rfl)
def yord62 : Nat → RHint := fun _ => default
def ylive62 : Nat → Nat := fun n => match n with | 0 => 12 | 1 => 16 | _ => 0
theorem yfok62 : fnOkX Tryz.prog ymoves ycaps 62 Tryz.f62 yord62 := fnOkX_mk Tryz.func62 (by kernel_rfl)
def yord63 : Nat → RHint := fun _ => default
def ylive63 : Nat → Nat := fun n => match n with | 0 => 12 | 1 => 16 | _ => 0
theorem yfok63 : fnOkX Tryz.prog ymoves ycaps 63 Tryz.f63 yord63 := fnOkX_mk Tryz.func63 (by kernel_rfl)
def yord64 : Nat → RHint := fun _ => default
def ylive64 : Nat → Nat := fun n => match n with | 0 => 7 | 1 => 16391 | 2 => 64 | 3 => 229382 | 4 => 491526 | 5 => 229766 | 6 => 230150 | 7 => 1073971206 | 8 => 64 | 9 => 229382 | 10 => 64 | _ => 0
theorem yfok64 : fnOkX Tryz.prog ymoves ycaps 64 Tryz.f64 yord64 := fnOkX_mk Tryz.func64 (by kernel_rfl)
def yord65 : Nat → RHint := fun _ => default
def ylive65 : Nat → Nat := fun n => match n with | 0 => 9 | 1 => 104 | 2 => 16 | _ => 0
theorem yfok65 : fnOkX Tryz.prog ymoves ycaps 65 Tryz.f65 yord65 := fnOkX_mk Tryz.func65 (by kernel_rfl)
def yord66 : Nat → RHint := fun _ => default
def ylive66 : Nat → Nat := fun n => match n with | 0 => 3 | 1 => 16 | _ => 0
theorem yfok66 : fnOkX Tryz.prog ymoves ycaps 66 Tryz.f66 yord66 := fnOkX_mk Tryz.func66 (by kernel_rfl)
def yord67 : Nat → RHint := fun _ => default
def ylive67 : Nat → Nat := fun n => match n with | 0 => 6 | 1 => 8 | _ => 0
theorem yfok67 : fnOkX Tryz.prog ymoves ycaps 67 Tryz.f67 yord67 := fnOkX_mk Tryz.func67 (by kernel_rfl)
def yord68 : Nat → RHint := fun _ => default
def ylive68 : Nat → Nat := fun n => match n with | 0 => 3 | 1 => 387 | 2 => 899 | 3 => 419 | 4 => 65955 | 5 => 16 | 6 => 387 | 7 => 16 | _ => 0
theorem yfok68 : fnOkX Tryz.prog ymoves ycaps 68 Tryz.f68 yord68 := fnOkX_mk Tryz.func68 (by kernel_rfl)
def yord69 : Nat → RHint := fun n => match n with | 11 => ⟨[(0, false), (1, false), (2, false), (3, false), (4, false), (5, false), (8, false), (6, true), (7, false), (9, true), (10, false), (11, true), (12, false)], none, [1], [13]⟩ | _ => default
def ylive69 : Nat → Nat := fun n => match n with | 0 => 78 | 1 => 206 | 2 => 206 | 3 => 65742 | 4 => 974 | 5 => 67109838 | 6 => 64 | 7 => 206 | 8 => 120259084494 | 9 => 257698037966 | 10 => 120259087566 | 11 => 120259084494 | 12 => 120259084494 | 13 => 64 | _ => 0
theorem yfok69 : fnOkX Tryz.prog ymoves ycaps 69 Tryz.f69 yord69 := fnOkX_mk Tryz.func69 (by kernel_rfl)
def yord70 : Nat → RHint := fun _ => default
def ylive70 : Nat → Nat := fun n => match n with | 0 => 7 | 1 => 135 | 2 => 524421 | 3 => 96 | 4 => 96 | _ => 0
theorem yfok70 : fnOkX Tryz.prog ymoves ycaps 70 Tryz.f70 yord70 := fnOkX_mk Tryz.func70 (by kernel_rfl)
def yord71 : Nat → RHint := fun _ => default
def ylive71 : Nat → Nat := fun n => match n with | 0 => 25 | 1 => 16409 | 2 => 48 | 3 => 89 | 4 => 89 | 5 => 3670097 | 6 => 7864401 | 7 => 3670353 | 8 => 3670865 | 9 => 70779729 | 10 => 3670865 | 11 => 3673169 | 12 => 34363411537 | 13 => 48 | 14 => 3670097 | 15 => 3670097 | 16 => 48 | _ => 0
theorem yfok71 : fnOkX Tryz.prog ymoves ycaps 71 Tryz.f71 yord71 := fnOkX_mk Tryz.func71 (by kernel_rfl)
def yord72 : Nat → RHint := fun _ => default
def ylive72 : Nat → Nat := fun n => match n with | 0 => 2 | 1 => 4 | _ => 0
theorem yfok72 : fnOkX Tryz.prog ymoves ycaps 72 Tryz.f72 yord72 := fnOkX_mk Tryz.func72 (by kernel_rfl)
def yord73 : Nat → RHint := fun _ => default
def ylive73 : Nat → Nat := fun n => match n with | 0 => 12 | 1 => 16 | _ => 0
theorem yfok73 : fnOkX Tryz.prog ymoves ycaps 73 Tryz.f73 yord73 := fnOkX_mk Tryz.func73 (by kernel_rfl)
def yord74 : Nat → RHint := fun _ => default
def ylive74 : Nat → Nat := fun n => match n with | 0 => 1 | 1 => 4 | _ => 0
theorem yfok74 : fnOkX Tryz.prog ymoves ycaps 74 Tryz.f74 yord74 := fnOkX_mk Tryz.func74 (by kernel_rfl)
def yord75 : Nat → RHint := fun _ => default
def ylive75 : Nat → Nat := fun n => match n with | 0 => 3 | 1 => 35 | 2 => 547 | 3 => 35 | 4 => 131107 | 5 => 16 | 6 => 16 | _ => 0
theorem yfok75 : fnOkX Tryz.prog ymoves ycaps 75 Tryz.f75 yord75 := fnOkX_mk Tryz.func75 (by kernel_rfl)
def yord76 : Nat → RHint := fun _ => default
def ylive76 : Nat → Nat := fun n => match n with | 0 => 1 | 1 => 4 | _ => 0
theorem yfok76 : fnOkX Tryz.prog ymoves ycaps 76 Tryz.f76 yord76 := fnOkX_mk Tryz.func76 (by kernel_rfl)
def yord77 : Nat → RHint := fun _ => default
def ylive77 : Nat → Nat := fun n => match n with | 0 => 1 | 1 => 4 | _ => 0
theorem yfok77 : fnOkX Tryz.prog ymoves ycaps 77 Tryz.f77 yord77 := fnOkX_mk Tryz.func77 (by kernel_rfl)
def yord78 : Nat → RHint := fun _ => default
def ylive78 : Nat → Nat := fun n => match n with | 0 => 6 | 1 => 16390 | 2 => 16 | 3 => 17179869190 | 4 => 16 | 5 => 1008806316530991110 | 6 => 2161727821137838086 | 7 => 1008806316530991174 | 8 => 74795782611369197574 | 9 => 16 | 10 => 1008806316530991110 | 11 => 134 | 12 => 154742504910672534362390534 | 13 => 16 | 14 => 4332790137498830962146934786 | 15 => 9284550294640352061743431682 | 16 => 4332790137498830962146935810 | 17 => 281631358937424012539550760962 | 18 => 598544008994481362913726562306 | 19 => 281631358937424012539550765058 | 20 => 281631358937424012539550769154 | 21 => 40846450566240764860434053341186 | 22 => 16 | 23 => 281631358937424012539550760962 | 24 => 4332790137498830962146934786 | 25 => 16 | _ => 0
theorem yfok78 : fnOkX Tryz.prog ymoves ycaps 78 Tryz.f78 yord78 := fnOkX_mk Tryz.func78 (by kernel_rfl)
def yord79 : Nat → RHint := fun _ => default
def ylive79 : Nat → Nat := fun n => match n with | 0 => 2 | 1 => 10 | 2 => 4 | 3 => 4096 | 4 => 4 | 5 => 4 | _ => 0
theorem yfok79 : fnOkX Tryz.prog ymoves ycaps 79 Tryz.f79 yord79 := fnOkX_mk Tryz.func79 (by kernel_rfl)
def yord80 : Nat → RHint := fun _ => default
def ylive80 : Nat → Nat := fun n => match n with | 0 => 2 | 1 => 4 | _ => 0
theorem yfok80 : fnOkX Tryz.prog ymoves ycaps 80 Tryz.f80 yord80 := fnOkX_mk Tryz.func80 (by kernel_rfl)
def yord81 : Nat → RHint := fun _ => default
def ylive81 : Nat → Nat := fun n => match n with | 0 => 85 | 1 => 131153 | 2 => 192 | 3 => 337 | 4 => 337 | 5 => 469762385 | 6 => 1006633297 | 7 => 469763921 | 8 => 469768529 | 9 => 4503600097139025 | 10 => 192 | 11 => 469762385 | 12 => 469762385 | 13 => 192 | _ => 0
theorem yfok81 : fnOkX Tryz.prog ymoves ycaps 81 Tryz.f81 yord81 := fnOkX_mk Tryz.func81 (by kernel_rfl)
def yord82 : Nat → RHint := fun n => match n with | 15 => ⟨[(1, false), (2, false), (5, false), (6, false), (0, true), (3, true), (4, true)], none, [], [2000000, 7, 8, 9]⟩ | _ => default
def ylive82 : Nat → Nat := fun n => match n with | 0 => 2 | 1 => 1048578 | 2 => 12 | 3 => 18 | 4 => 112 | 5 => 1073741872 | 6 => 12 | 7 => 176 | 8 => 432 | 9 => 15032385936 | 10 => 32212255120 | 11 => 15032386960 | 12 => 15032387984 | 13 => 4413078899088 | 14 => 12 | 15 => 15032385936 | 16 => 15032385936 | 17 => 18014398509482112 | 18 => 12 | 19 => 12 | _ => 0
theorem yfok82 : fnOkX Tryz.prog ymoves ycaps 82 Tryz.f82 yord82 := fnOkX_mk Tryz.func82 (by kernel_rfl)
def yord83 : Nat → RHint := fun n => match n with | 10 => ⟨[(0, false), (1, false), (2, false), (3, true), (4, false), (5, true), (6, false)], none, [1], [7]⟩ | _ => default
def ylive83 : Nat → Nat := fun n => match n with | 0 => 5 | 1 => 133 | 2 => 389 | 3 => 4 | 4 => 2053 | 5 => 4 | 6 => 13 | 7 => 1835020 | 8 => 3932172 | 9 => 1835052 | 10 => 1835020 | 11 => 1835020 | 12 => 4 | _ => 0
theorem yfok83 : fnOkX Tryz.prog ymoves ycaps 83 Tryz.f83 yord83 := fnOkX_mk Tryz.func83 (by kernel_rfl)
def yord84 : Nat → RHint := fun n => match n with | 4 => ⟨[(0, false), (1, false), (2, false), (3, false), (4, false), (5, false), (6, true)], none, [], [7]⟩ | _ => default
def ylive84 : Nat → Nat := fun n => match n with | 0 => 3 | 1 => 35 | 2 => 1059 | 3 => 99 | 4 => 16777315 | 5 => 35 | 6 => 35 | 7 => 16 | _ => 0
theorem yfok84 : fnOkX Tryz.prog ymoves ycaps 84 Tryz.f84 yord84 := fnOkX_mk Tryz.func84 (by kernel_rfl)
def yord85 : Nat → RHint := fun _ => default
def ylive85 : Nat → Nat := fun n => match n with | 0 => 0 | _ => 0
theorem yfok85 : fnOkX Tryz.prog ymoves ycaps 85 Tryz.f85 yord85 := fnOkX_mk Tryz.func85 (by kernel_rfl)
def yord86 : Nat → RHint := fun n => match n with | 1 => ⟨[(0, false), (2, false), (1, true)], none, [], [3, 4, 5]⟩ | _ => default
def ylive86 : Nat → Nat := fun n => match n with | 0 => 12 | 1 => 16 | _ => 0
theorem yfok86 : fnOkX Tryz.prog ymoves ycaps 86 Tryz.f86 yord86 := fnOkX_mk Tryz.func86 (by kernel_rfl)
def yord87 : Nat → RHint := fun n => match n with | 1 => ⟨[(0, false), (1, false), (2, false), (3, false), (5, false), (6, false), (7, false), (8, false), (10, false), (11, false), (12, false), (13, false), (15, false), (16, false), (17, false), (18, false), (19, false), (20, false), (4, true), (9, true), (14, true)], none, [], [21, 22, 23, 24]⟩ | 5 => ⟨[(0, false), (1, false), (2, false), (3, false), (4, false), (5, false), (6, false), (7, false), (8, false), (9, false)], none, [], [10, 11]⟩ | _ => default
def ylive87 : Nat → Nat := fun n => match n with | 0 => 12 | 1 => 44 | 2 => 108 | 3 => 549755813996 | 4 => 108 | 5 => 108 | 6 => 16 | _ => 0
theorem yfok87 : fnOkX Tryz.prog ymoves ycaps 87 Tryz.f87 yord87 := fnOkX_mk Tryz.func87 (by kernel_rfl)
def yord88 : Nat → RHint := fun n => match n with | 5 => ⟨[(0, false), (2, false), (1, true), (3, false), (4, false)], none, [], [5]⟩ | _ => default
def ylive88 : Nat → Nat := fun n => match n with | 0 => 6 | 1 => 14 | 2 => 22 | 3 => 65556 | 6 => 4 | _ => 0
theorem yfok88 : fnOkX Tryz.prog ymoves ycaps 88 Tryz.f88 yord88 := fnOkX_mk Tryz.func88 (by kernel_rfl)
def yord89 : Nat → RHint := fun _ => default
def ylive89 : Nat → Nat := fun n => match n with | 0 => 3 | 1 => 16 | _ => 0
theorem yfok89 : fnOkX Tryz.prog ymoves ycaps 89 Tryz.f89 yord89 := fnOkX_mk Tryz.func89 (by kernel_rfl)
def yord90 : Nat → RHint := fun _ => default
def ylive90 : Nat → Nat := fun n => match n with | 0 => 6 | 1 => 8 | _ => 0
theorem yfok90 : fnOkX Tryz.prog ymoves ycaps 90 Tryz.f90 yord90 := fnOkX_mk Tryz.func90 (by kernel_rfl)
def yord91 : Nat → RHint := fun _ => default
def ylive91 : Nat → Nat := fun n => match n with | 0 => 3 | 1 => 387 | 2 => 899 | 3 => 419 | 4 => 65955 | 5 => 16 | 6 => 387 | 7 => 16 | _ => 0
theorem yfok91 : fnOkX Tryz.prog ymoves ycaps 91 Tryz.f91 yord91 := fnOkX_mk Tryz.func91 (by kernel_rfl)
def yord92 : Nat → RHint := fun n => match n with | 1 => ⟨[(0, false), (1, false), (2, false), (3, false), (4, false), (5, false), (6, false), (7, false), (8, false), (9, false), (10, false), (11, false), (12, false), (13, false), (14, false), (15, false), (16, false), (17, false)], none, [], [18, 19, 20]⟩ | _ => default
def ylive92 : Nat → Nat := fun n => match n with | 0 => 30 | 1 => 32 | _ => 0
theorem yfok92 : fnOkX Tryz.prog ymoves ycaps 92 Tryz.f92 yord92 := fnOkX_mk Tryz.func92 (by kernel_rfl)
def yord93 : Nat → RHint := fun _ => default
def ylive93 : Nat → Nat := fun n => match n with | 0 => 49 | 1 => 64 | _ => 0
theorem yfok93 : fnOkX Tryz.prog ymoves ycaps 93 Tryz.f93 yord93 := fnOkX_mk Tryz.func93 (by kernel_rfl)
def yord94 : Nat → RHint := fun _ => default
def ylive94 : Nat → Nat := fun n => match n with | 0 => 3 | 1 => 387 | 2 => 899 | 3 => 419 | 4 => 65955 | 5 => 16 | 6 => 387 | 7 => 16 | _ => 0
theorem yfok94 : fnOkX Tryz.prog ymoves ycaps 94 Tryz.f94 yord94 := fnOkX_mk Tryz.func94 (by kernel_rfl)
def yord95 : Nat → RHint := fun _ => default
def ylive95 : Nat → Nat := fun n => match n with | 0 => 2 | 1 => 4 | _ => 0
theorem yfok95 : fnOkX Tryz.prog ymoves ycaps 95 Tryz.f95 yord95 := fnOkX_mk Tryz.func95 (by kernel_rfl)
def yord96 : Nat → RHint := fun _ => default
def ylive96 : Nat → Nat := fun n => match n with | 0 => 3 | 1 => 16 | _ => 0
theorem yfok96 : fnOkX Tryz.prog ymoves ycaps 96 Tryz.f96 yord96 := fnOkX_mk Tryz.func96 (by kernel_rfl)
def yord97 : Nat → RHint := fun _ => default
def ylive97 : Nat → Nat := fun n => match n with | 0 => 2 | 1 => 10 | 2 => 8 | 3 => 4 | _ => 0
theorem yfok97 : fnOkX Tryz.prog ymoves ycaps 97 Tryz.f97 yord97 := fnOkX_mk Tryz.func97 (by kernel_rfl)
def yord98 : Nat → RHint := fun _ => default
def ylive98 : Nat → Nat := fun n => match n with | 0 => 3 | 1 => 8 | _ => 0
theorem yfok98 : fnOkX Tryz.prog ymoves ycaps 98 Tryz.f98 yord98 := fnOkX_mk Tryz.func98 (by kernel_rfl)
def yord99 : Nat → RHint := fun _ => default
def ylive99 : Nat → Nat := fun n => match n with | 0 => 3 | 1 => 387 | 2 => 899 | 3 => 419 | 4 => 65955 | 5 => 16 | 6 => 387 | 7 => 16 | _ => 0
theorem yfok99 : fnOkX Tryz.prog ymoves ycaps 99 Tryz.f99 yord99 := fnOkX_mk Tryz.func99 (by kernel_rfl)
def yord100 : Nat → RHint := fun n => match n with | 6 => ⟨[(0, false), (1, false), (2, false), (3, true), (4, false), (5, true), (6, false)], none, [1], [7]⟩ | _ => default
def ylive100 : Nat → Nat := fun n => match n with | 0 => 6 | 1 => 14 | 2 => 14 | 3 => 3596 | 4 => 7692 | 5 => 3628 | 6 => 3596 | 7 => 3596 | 8 => 4 | _ => 0
theorem yfok100 : fnOkX Tryz.prog ymoves ycaps 100 Tryz.f100 yord100 := fnOkX_mk Tryz.func100 (by kernel_rfl)
def yord101 : Nat → RHint := fun _ => default
def ylive101 : Nat → Nat := fun n => match n with | 0 => 6 | 1 => 2048 | 2 => 16 | 3 => 16 | _ => 0
theorem yfok101 : fnOkX Tryz.prog ymoves ycaps 101 Tryz.f101 yord101 := fnOkX_mk Tryz.func101 (by kernel_rfl)
def yord102 : Nat → RHint := fun _ => default
def ylive102 : Nat → Nat := fun n => match n with | 0 => 1 | 1 => 4 | _ => 0
theorem yfok102 : fnOkX Tryz.prog ymoves ycaps 102 Tryz.f102 yord102 := fnOkX_mk Tryz.func102 (by kernel_rfl)
def yord103 : Nat → RHint := fun _ => default
def ylive103 : Nat → Nat := fun n => match n with | 0 => 12 | 1 => 108 | 2 => 8232 | 3 => 16 | 4 => 536870952 | 5 => 16 | 6 => 281474976710696 | 7 => 16 | 8 => 16 | _ => 0
theorem yfok103 : fnOkX Tryz.prog ymoves ycaps 103 Tryz.f103 yord103 := fnOkX_mk Tryz.func103 (by kernel_rfl)
def yord104 : Nat → RHint := fun _ => default
def ylive104 : Nat → Nat := fun n => match n with | 0 => 5 | 1 => 21 | 2 => 8589934613 | 3 => 12 | 4 => 12 | _ => 0
theorem yfok104 : fnOkX Tryz.prog ymoves ycaps 104 Tryz.f104 yord104 := fnOkX_mk Tryz.func104 (by kernel_rfl)
def yord105 : Nat → RHint := fun n => match n with | 8 => ⟨[(0, false), (1, false), (2, false), (3, false), (4, false), (5, false), (6, false), (7, false), (8, false), (13, false), (9, true), (10, false), (11, false), (12, false)], some 13, [], [14, 15]⟩ | 13 => ⟨[(0, false), (1, false), (2, false), (3, false), (4, false)], none, [], [5, 6]⟩ | _ => default
def ylive105 : Nat → Nat := fun n => match n with | 0 => 2 | 1 => 10 | 2 => 393226 | 3 => 917514 | 4 => 393242 | 5 => 393258 | 6 => 67502122 | 7 => 393322 | 8 => 393450 | 9 => 9223372036855169130 | 10 => 393258 | 11 => 393258 | 12 => 393322 | 13 => 393834 | 14 => 9903520314283042199193387626 | 15 => 393258 | 16 => 393258 | 17 => 394346 | 18 => 394282 | 19 => 10633823966279326983230456482243150890 | 20 => 4 | 21 => 340282366920938463463374607431768605738 | 22 => 393258 | 23 => 393226 | 24 => 4 | _ => 0
theorem yfok105 : fnOkX Tryz.prog ymoves ycaps 105 Tryz.f105 yord105 := fnOkX_mk Tryz.func105 (by kernel_rfl)
def yord106 : Nat → RHint := fun _ => default
def ylive106 : Nat → Nat := fun n => match n with | 0 => 6 | 1 => 38 | 2 => 16 | 3 => 16390 | 4 => 16 | 5 => 16777222 | 6 => 16 | 7 => 16 | _ => 0
theorem yfok106 : fnOkX Tryz.prog ymoves ycaps 106 Tryz.f106 yord106 := fnOkX_mk Tryz.func106 (by kernel_rfl)
def yord107 : Nat → RHint := fun _ => default
def ylive107 : Nat → Nat := fun n => match n with | 0 => 2 | 1 => 10 | 2 => 904 | 3 => 1928 | 4 => 936 | 5 => 904 | 6 => 904 | 7 => 4 | _ => 0
theorem yfok107 : fnOkX Tryz.prog ymoves ycaps 107 Tryz.f107 yord107 := fnOkX_mk Tryz.func107 (by kernel_rfl)
def yord108 : Nat → RHint := fun _ => default
def ylive108 : Nat → Nat := fun n => match n with | 0 => 2 | 1 => 10 | 2 => 904 | 3 => 1928 | 4 => 936 | 5 => 904 | 6 => 904 | 7 => 4 | _ => 0
theorem yfok108 : fnOkX Tryz.prog ymoves ycaps 108 Tryz.f108 yord108 := fnOkX_mk Tryz.func108 (by kernel_rfl)
def yord109 : Nat → RHint := fun _ => default
def ylive109 : Nat → Nat := fun n => match n with | 0 => 2 | 1 => 4 | _ => 0
theorem yfok109 : fnOkX Tryz.prog ymoves ycaps 109 Tryz.f109 yord109 := fnOkX_mk Tryz.func109 (by kernel_rfl)
def yord110 : Nat → RHint := fun n => match n with | 18 => ⟨[], some 999999, [], []⟩ | 19 => ⟨[(0, false), (1, false), (2, false), (3, false), (4, false), (5, false), (6, true), (7, true), (8, true), (9, false), (10, false), (11, false), (12, false)], none, [], [13]⟩ | _ => default
def ylive110 : Nat → Nat := fun n => match n with | 0 => 9 | 1 => 73 | 2 => 201 | 3 => 16585 | 4 => 49353 | 5 => 49353 | 6 => 193 | 7 => 1065161 | 8 => 58720449 | 9 => 125829313 | 10 => 58720961 | 11 => 58723521 | 12 => 58720449 | 13 => 58720449 | 14 => 8796093038793 | 15 => 193 | 16 => 4503599627370697 | 17 => 4105 | 18 => 4105 | 19 => 4289 | 20 => 38685626227668133590601921 | 21 => 193 | 22 => 10141204801825835211973625643072 | 23 => 48 | 24 => 48 | _ => 0
theorem yfok110 : fnOkX Tryz.prog ymoves ycaps 110 Tryz.f110 yord110 := fnOkX_mk Tryz.func110 (by kernel_rfl)
def yord111 : Nat → RHint := fun n => match n with | 8 => ⟨[(0, false), (1, false), (2, false), (3, false), (4, false), (5, false), (6, false), (7, false), (8, false), (9, true), (10, false), (11, true), (12, false)], none, [1], [13]⟩ | _ => default
def ylive111 : Nat → Nat := fun n => match n with | 0 => 28 | 1 => 60 | 2 => 124 | 3 => 124 | 4 => 180 | 5 => 229524 | 6 => 491668 | 7 => 230036 | 8 => 229524 | 9 => 229524 | 10 => 16 | _ => 0
theorem yfok111 : fnOkX Tryz.prog ymoves ycaps 111 Tryz.f111 yord111 := fnOkX_mk Tryz.func111 (by kernel_rfl)
def yord112 : Nat → RHint := fun _ => default
def ylive112 : Nat → Nat := fun n => match n with | 0 => 2 | 1 => 4 | _ => 0
theorem yfok112 : fnOkX Tryz.prog ymoves ycaps 112 Tryz.f112 yord112 := fnOkX_mk Tryz.func112 (by kernel_rfl)
def yord113 : Nat → RHint := fun _ => default
def ylive113 : Nat → Nat := fun n => match n with | 0 => 1 | 1 => 9 | 2 => 1800 | 3 => 3848 | 4 => 1832 | 5 => 67368 | 6 => 1832 | 7 => 1992 | 8 => 4294969096 | 9 => 4 | 10 => 1800 | 11 => 4 | _ => 0
theorem yfok113 : fnOkX Tryz.prog ymoves ycaps 113 Tryz.f113 yord113 := fnOkX_mk Tryz.func113 (by kernel_rfl)
def yord114 : Nat → RHint := fun n => match n with | 5 => ⟨[(0, false), (1, false), (2, false), (3, false), (4, false), (5, false)], none, [], [6, 7]⟩ | _ => default
def ylive114 : Nat → Nat := fun n => match n with | 0 => 7 | 1 => 7 | 2 => 65543 | 3 => 64 | 4 => 135 | 5 => 129 | 6 => 1 | 7 => 64 | _ => 0
theorem yfok114 : fnOkX Tryz.prog ymoves ycaps 114 Tryz.f114 yord114 := fnOkX_mk Tryz.func114 (by kernel_rfl)
def yord115 : Nat → RHint := fun _ => default
def ylive115 : Nat → Nat := fun n => match n with | 0 => 1 | 1 => 17 | 2 => 4 | 3 => 4 | _ => 0
theorem yfok115 : fnOkX Tryz.prog ymoves ycaps 115 Tryz.f115 yord115 := fnOkX_mk Tryz.func115 (by kernel_rfl)
def yord116 : Nat → RHint := fun _ => default
def ylive116 : Nat → Nat := fun n => match n with | 0 => 49 | 1 => 64 | _ => 0
theorem yfok116 : fnOkX Tryz.prog ymoves ycaps 116 Tryz.f116 yord116 := fnOkX_mk Tryz.func116 (by kernel_rfl)
def yord117 : Nat → RHint := fun _ => default
def ylive117 : Nat → Nat := fun n => match n with | 0 => 71 | 1 => 455 | 2 => 8647 | 3 => 327 | 4 => 455 | 5 => 455 | 6 => 71 | 7 => 1073741895 | 8 => 455 | 9 => 34359738823 | 10 => 327 | 11 => 455 | 12 => 455 | 13 => 711 | 14 => 18014398509482695 | 15 => 71 | 16 => 71 | _ => 0
theorem yfok117 : fnOkX Tryz.prog ymoves ycaps 117 Tryz.f117 yord117 := fnOkX_mk Tryz.func117 (by kernel_rfl)
def yord118 : Nat → RHint := fun _ => default
def ylive118 : Nat → Nat := fun n => match n with | 0 => 1 | 1 => 9 | 2 => 456 | 3 => 968 | 4 => 488 | 5 => 16872 | 6 => 4 | 7 => 456 | 8 => 4 | _ => 0
theorem yfok118 : fnOkX Tryz.prog ymoves ycaps 118 Tryz.f118 yord118 := fnOkX_mk Tryz.func118 (by kernel_rfl)
def yord119 : Nat → RHint := fun _ => default
def ylive119 : Nat → Nat := fun n => match n with | 0 => 3 | 1 => 35 | 2 => 99 | 3 => 2115 | 4 => 4096 | 5 => 16 | 6 => 16 | 7 => 8195 | 8 => 16 | 9 => 65539 | 10 => 16 | 11 => 524288 | 12 => 16 | 13 => 16 | _ => 0
theorem yfok119 : fnOkX Tryz.prog ymoves ycaps 119 Tryz.f119 yord119 := fnOkX_mk Tryz.func119 (by kernel_rfl)
def yord120 : Nat → RHint := fun _ => default
def ylive120 : Nat → Nat := fun n => match n with | 0 => 3 | 1 => 35 | 2 => 99 | 3 => 2115 | 4 => 4096 | 5 => 16 | 6 => 16 | 7 => 8195 | 8 => 16 | 9 => 65539 | 10 => 16 | 11 => 524288 | 12 => 16 | 13 => 16 | _ => 0
theorem yfok120 : fnOkX Tryz.prog ymoves ycaps 120 Tryz.f120 yord120 := fnOkX_mk Tryz.func120 (by kernel_rfl)
def yord121 : Nat → RHint := fun n => match n with | 10 => ⟨[(0, false), (1, false), (2, false), (3, false), (4, false), (5, false), (6, false), (7, false), (8, false), (9, false), (10, true), (11, false), (12, true), (13, false)], none, [1], [14]⟩ | _ => default
def ylive121 : Nat → Nat := fun n => match n with | 0 => 78 | 1 => 1102 | 2 => 64 | 3 => 131150 | 4 => 64 | 5 => 206 | 6 => 206 | 7 => 120259084494 | 8 => 257698037966 | 9 => 120259085006 | 10 => 120259084494 | 11 => 120259084494 | 12 => 64 | _ => 0
theorem yfok121 : fnOkX Tryz.prog ymoves ycaps 121 Tryz.f121 yord121 := fnOkX_mk Tryz.func121 (by kernel_rfl)
def yord122 : Nat → RHint := fun _ => default
def ylive122 : Nat → Nat := fun n => match n with | 0 => 14 | 1 => 4110 | 2 => 12 | 3 => 8 | _ => 0
theorem yfok122 : fnOkX Tryz.prog ymoves ycaps 122 Tryz.f122 yord122 := fnOkX_mk Tryz.func122 (by kernel_rfl)
def yord123 : Nat → RHint := fun _ => default
def ylive123 : Nat → Nat := fun n => match n with | 0 => 2 | 1 => 4 | _ => 0
theorem yfok123 : fnOkX Tryz.prog ymoves ycaps 123 Tryz.f123 yord123 := fnOkX_mk Tryz.func123 (by kernel_rfl)
def yord124 : Nat → RHint := fun _ => default
def ylive124 : Nat → Nat := fun n => match n with | 0 => 6 | 1 => 4 | _ => 0
theorem yfok124 : fnOkX Tryz.prog ymoves ycaps 124 Tryz.f124 yord124 := fnOkX_mk Tryz.func124 (by kernel_rfl)
def yord125 : Nat → RHint := fun _ => default
def ylive125 : Nat → Nat := fun n => match n with | 0 => 3 | 1 => 387 | 2 => 899 | 3 => 419 | 4 => 65955 | 5 => 16 | 6 => 387 | 7 => 16 | _ => 0
theorem yfok125 : fnOkX Tryz.prog ymoves ycaps 125 Tryz.f125 yord125 := fnOkX_mk Tryz.func125 (by kernel_rfl)
def yord126 : Nat → RHint := fun _ => default
def ylive126 : Nat → Nat := fun n => match n with | 0 => 49 | 1 => 417 | 2 => 64 | _ => 0
theorem yfok126 : fnOkX Tryz.prog ymoves ycaps 126 Tryz.f126 yord126 := fnOkX_mk Tryz.func126 (by kernel_rfl)
def yord127 : Nat → RHint := fun n => match n with | 6 => ⟨[(0, false), (1, false), (2, false), (3, false), (4, true), (5, false)], none, [], [6, 7]⟩ | _ => default
def ylive127 : Nat → Nat := fun n => match n with | 0 => 6 | 1 => 32774 | 2 => 16 | 3 => 917510 | 4 => 1966086 | 5 => 917606 | 6 => 2148401158 | 7 => 16 | 8 => 917510 | 9 => 16 | _ => 0
theorem yfok127 : fnOkX Tryz.prog ymoves ycaps 127 Tryz.f127 yord127 := fnOkX_mk Tryz.func127 (by kernel_rfl)
def yord128 : Nat → RHint := fun _ => default
def ylive128 : Nat → Nat := fun n => match n with | 0 => 2 | 1 => 4 | _ => 0
theorem yfok128 : fnOkX Tryz.prog ymoves ycaps 128 Tryz.f128 yord128 := fnOkX_mk Tryz.func128 (by kernel_rfl)
def yord129 : Nat → RHint := fun _ => default
def ylive129 : Nat → Nat := fun n => match n with | 0 => 3 | 1 => 387 | 2 => 899 | 3 => 419 | 4 => 65955 | 5 => 16 | 6 => 387 | 7 => 16 | _ => 0
theorem yfok129 : fnOkX Tryz.prog ymoves ycaps 129 Tryz.f129 yord129 := fnOkX_mk Tryz.func129 (by kernel_rfl)
def yord130 : Nat → RHint := fun n => match n with | 6 => ⟨[(0, false), (1, false), (2, false), (3, false), (6, false), (4, true), (5, false)], none, [], [7]⟩ | _ => default
def ylive130 : Nat → Nat := fun n => match n with | 0 => 14 | 1 => 65550 | 2 => 14 | 3 => 117440526 | 4 => 251658254 | 5 => 117440718 | 6 => 117440526 | 7 => 117440526 | _ => 0
theorem yfok130 : fnOkX Tryz.prog ymoves ycaps 130 Tryz.f130 yord130 := fnOkX_mk Tryz.func130 (by kernel_rfl)
def yord131 : Nat → RHint := fun _ => default
def ylive131 : Nat → Nat := fun n => match n with | 0 => 56 | 1 => 176 | 2 => 57520 | 3 => 123056 | 4 => 58032 | 5 => 16834736 | 6 => 64 | 7 => 57520 | 8 => 1200 | 9 => 64 | _ => 0
theorem yfok131 : fnOkX Tryz.prog ymoves ycaps 131 Tryz.f131 yord131 := fnOkX_mk Tryz.func131 (by kernel_rfl)
def yord132 : Nat → RHint := fun _ => default
def ylive132 : Nat → Nat := fun n => match n with | 0 => 12 | 1 => 76 | 2 => 204 | 3 => 204 | 4 => 16 | 5 => 2097228 | 6 => 16 | 7 => 2147483724 | 8 => 16 | 9 => 2199023255628 | 10 => 16 | 11 => 18014398509482056 | 12 => 18014398509481992 | 13 => 16 | 14 => 16 | _ => 0
theorem yfok132 : fnOkX Tryz.prog ymoves ycaps 132 Tryz.f132 yord132 := fnOkX_mk Tryz.func132 (by kernel_rfl)
def yord133 : Nat → RHint := fun _ => default
def ylive133 : Nat → Nat := fun n => match n with | 0 => 2 | 1 => 4 | _ => 0
theorem yfok133 : fnOkX Tryz.prog ymoves ycaps 133 Tryz.f133 yord133 := fnOkX_mk Tryz.func133 (by kernel_rfl)
def yord134 : Nat → RHint := fun _ => default
def ylive134 : Nat → Nat := fun n => match n with | 0 => 2 | 1 => 4 | _ => 0
theorem yfok134 : fnOkX Tryz.prog ymoves ycaps 134 Tryz.f134 yord134 := fnOkX_mk Tryz.func134 (by kernel_rfl)
def yord135 : Nat → RHint := fun _ => default
def ylive135 : Nat → Nat := fun n => match n with | 0 => 2 | 1 => 131074 | 2 => 4 | 3 => 524290 | 4 => 1572866 | 5 => 4 | 6 => 34078722 | 7 => 4 | 8 => 134742018 | 9 => 4 | 10 => 137438953474 | 11 => 10 | 12 => 8796093022218 | 13 => 10 | 14 => 2251799813685258 | 15 => 4 | 16 => 4 | 17 => 4 | _ => 0
theorem yfok135 : fnOkX Tryz.prog ymoves ycaps 135 Tryz.f135 yord135 := fnOkX_mk Tryz.func135 (by kernel_rfl)
def yord136 : Nat → RHint := fun _ => default
def ylive136 : Nat → Nat := fun n => match n with | 0 => 6 | 1 => 38 | 2 => 102 | 3 => 358 | 4 => 1073742178 | 5 => 352 | 6 => 4398046511392 | 7 => 256 | 8 => 256 | 9 => 16 | _ => 0
theorem yfok136 : fnOkX Tryz.prog ymoves ycaps 136 Tryz.f136 yord136 := fnOkX_mk Tryz.func136 (by kernel_rfl)
def yord137 : Nat → RHint := fun _ => default
def ylive137 : Nat → Nat := fun n => match n with | 0 => 2 | 1 => 4 | _ => 0
theorem yfok137 : fnOkX Tryz.prog ymoves ycaps 137 Tryz.f137 yord137 := fnOkX_mk Tryz.func137 (by kernel_rfl)
def yord138 : Nat → RHint := fun _ => default
def ylive138 : Nat → Nat := fun n => match n with | 0 => 2 | 1 => 1048578 | 2 => 4 | 3 => 4194306 | 4 => 12582914 | 5 => 12582914 | 6 => 4 | 7 => 1077936130 | 8 => 4 | 9 => 4503599631564802 | 10 => 4 | 11 => 288230376155906050 | 12 => 4 | 13 => 18446744073713745922 | 14 => 4 | 15 => 1208925819614629174706178 | 16 => 4 | 17 => 4 | _ => 0
theorem yfok138 : fnOkX Tryz.prog ymoves ycaps 138 Tryz.f138 yord138 := fnOkX_mk Tryz.func138 (by kernel_rfl)
def yord139 : Nat → RHint := fun _ => default
def ylive139 : Nat → Nat := fun n => match n with | 0 => 2 | 1 => 4 | _ => 0
theorem yfok139 : fnOkX Tryz.prog ymoves ycaps 139 Tryz.f139 yord139 := fnOkX_mk Tryz.func139 (by kernel_rfl)
def yord140 : Nat → RHint := fun _ => default
def ylive140 : Nat → Nat := fun n => match n with | 0 => 3 | 1 => 67 | 2 => 458817 | 3 => 983105 | 4 => 459073 | 5 => 460353 | 6 => 537330241 | 7 => 48 | 8 => 458817 | 9 => 458817 | 10 => 6144 | 11 => 14336 | 12 => 15393162801152 | 13 => 32985348845568 | 14 => 15393162833920 | 15 => 15393162801152 | 16 => 15393162801152 | 17 => 48 | _ => 0
theorem yfok140 : fnOkX Tryz.prog ymoves ycaps 140 Tryz.f140 yord140 := fnOkX_mk Tryz.func140 (by kernel_rfl)
def yord141 : Nat → RHint := fun _ => default
def ylive141 : Nat → Nat := fun n => match n with | 0 => 28 | 1 => 16 | _ => 0
theorem yfok141 : fnOkX Tryz.prog ymoves ycaps 141 Tryz.f141 yord141 := fnOkX_mk Tryz.func141 (by kernel_rfl)
def yord142 : Nat → RHint := fun _ => default
def ylive142 : Nat → Nat := fun n => match n with | 0 => 5 | 1 => 4 | _ => 0
theorem yfok142 : fnOkX Tryz.prog ymoves ycaps 142 Tryz.f142 yord142 := fnOkX_mk Tryz.func142 (by kernel_rfl)
def yord143 : Nat → RHint := fun _ => default
def ylive143 : Nat → Nat := fun n => match n with | 0 => 7 | 1 => 263 | 2 => 57605 | 3 => 123141 | 4 => 58629 | 5 => 64773 | 6 => 16841989 | 7 => 63749 | 8 => 61701 | 9 => 35184372146437 | 10 => 192 | 11 => 57605 | 12 => 192 | _ => 0
theorem yfok143 : fnOkX Tryz.prog ymoves ycaps 143 Tryz.f143 yord143 := fnOkX_mk Tryz.func143 (by kernel_rfl)
def yord144 : Nat → RHint := fun n => match n with | 5 => ⟨[(0, false), (1, false), (2, false), (3, false), (4, false), (5, true)], none, [2], [6, 7]⟩ | 12 => ⟨[(0, false), (1, false), (2, false), (3, false), (4, true), (5, false), (6, true), (7, false)], none, [1], [8]⟩ | _ => default
def ylive144 : Nat → Nat := fun n => match n with | 0 => 62 | 1 => 254 | 2 => 67108988 | 3 => 356 | 4 => 2147484004 | 5 => 288 | 6 => 32 | 7 => 568 | 8 => 568 | 9 => 61572651156008 | 10 => 131941395333672 | 11 => 61572651158056 | 12 => 61572651156008 | 13 => 61572651156008 | 14 => 32 | _ => 0
theorem yfok144 : fnOkX Tryz.prog ymoves ycaps 144 Tryz.f144 yord144 := fnOkX_mk Tryz.func144 (by kernel_rfl)
def yord145 : Nat → RHint := fun n => match n with | 4 => ⟨[(0, false), (1, false), (2, false), (3, false)], none, [], [4]⟩ | _ => default
def ylive145 : Nat → Nat := fun n => match n with | 0 => 2 | 1 => 1048578 | 2 => 12 | 3 => 48 | 4 => 12 | _ => 0
theorem yfok145 : fnOkX Tryz.prog ymoves ycaps 145 Tryz.f145 yord145 := fnOkX_mk Tryz.func145 (by kernel_rfl)
def yord146 : Nat → RHint := fun _ => default
def ylive146 : Nat → Nat := fun n => match n with | 0 => 3 | 1 => 387 | 2 => 899 | 3 => 419 | 4 => 65955 | 5 => 16 | 6 => 387 | 7 => 16 | _ => 0
theorem yfok146 : fnOkX Tryz.prog ymoves ycaps 146 Tryz.f146 yord146 := fnOkX_mk Tryz.func146 (by kernel_rfl)
def yord147 : Nat → RHint := fun _ => default
def ylive147 : Nat → Nat := fun n => match n with | 0 => 2 | 1 => 10 | 2 => 26 | 3 => 26 | 4 => 8 | 5 => 4 | _ => 0
theorem yfok147 : fnOkX Tryz.prog ymoves ycaps 147 Tryz.f147 yord147 := fnOkX_mk Tryz.func147 (by kernel_rfl)
def yord148 : Nat → RHint := fun _ => default
def ylive148 : Nat → Nat := fun n => match n with | 0 => 6 | 1 => 8 | _ => 0
theorem yfok148 : fnOkX Tryz.prog ymoves ycaps 148 Tryz.f148 yord148 := fnOkX_mk Tryz.func148 (by kernel_rfl)
def yord149 : Nat → RHint := fun _ => default
def ylive149 : Nat → Nat := fun n => match n with | 0 => 42 | 1 => 394 | 2 => 64 | _ => 0
theorem yfok149 : fnOkX Tryz.prog ymoves ycaps 149 Tryz.f149 yord149 := fnOkX_mk Tryz.func149 (by kernel_rfl)
def yord150 : Nat → RHint := fun n => match n with | 4 => ⟨[(0, false), (1, false), (2, false), (3, false), (4, false), (5, false), (6, false), (7, false), (8, false), (9, false), (10, false), (11, false), (12, false), (13, false)], none, [], [14, 15, 16]⟩ | 6 => ⟨[], some 999999, [], []⟩ | _ => default
def ylive150 : Nat → Nat := fun n => match n with | 0 => 271 | 1 => 16655 | 2 => 271 | 3 => 783 | 4 => 17179869967 | 5 => 783 | 6 => 783 | _ => 0
theorem yfok150 : fnOkX Tryz.prog ymoves ycaps 150 Tryz.f150 yord150 := fnOkX_mk Tryz.func150 (by kernel_rfl)
def yord151 : Nat → RHint := fun n => match n with | 5 => ⟨[(0, false), (1, false), (2, false), (3, false), (4, false), (5, false), (6, false), (7, false), (8, false)], none, [], [9, 10]⟩ | 11 => ⟨[], some 999999, [], []⟩ | 17 => ⟨[(0, false), (1, false), (2, false), (3, false), (4, false), (5, false), (6, false), (7, false), (8, false)], none, [], [9, 10, 11]⟩ | 23 => ⟨[], some 999999, [], []⟩ | 35 => ⟨[(0, false), (1, false), (2, false), (3, false), (4, false), (5, false), (6, false), (7, false), (8, false), (9, false), (10, false)], none, [], [11, 12, 13]⟩ | _ => default
def ylive151 : Nat → Nat := fun n => match n with | 0 => 268435487 | 1 => 1051 | 2 => 3091 | 3 => 8589937683 | 4 => 7187 | 5 => 1125899906849811 | 6 => 3091 | 7 => 3091 | 8 => 9217 | 9 => 288230376151720961 | 10 => 9217 | 11 => 9217 | 12 => 1208925819614629174706207 | 13 => 16405 | 14 => 49173 | 15 => 38685626227668133590646805 | 16 => 114709 | 17 => 10141204801825835211973625757717 | 18 => 49173 | 19 => 49173 | 20 => 147457 | 21 => 1298074214633706907132624082452481 | 22 => 147457 | 23 => 147457 | 24 => 262175 | 25 => 786463 | 26 => 786463 | 27 => 1393796574908163946345982392040522594910239 | 28 => 1835039 | 29 => 3932191 | 30 => 1835039 | 31 => 3932191 | 32 => 8126495 | 33 => 2854495385411919762116571938898990272773619743 | 34 => 16515103 | 35 => 2993155353253689176481146537402947624255349864529951 | 36 => 8126495 | 37 => 8126495 | 38 => 18087967 | 39 => 49039857307708443467467104868809893875799651909893357599 | 40 => 18087963 | 41 => 803469022129495137770981046170581301261101496891396435738651 | 42 => 17039385 | 43 => 13164036458569648337239753460458804039861886925068638906805911577 | 44 => 0 | _ => 0
theorem yfok151 : fnOkX Tryz.prog ymoves ycaps 151 Tryz.f151 yord151 := fnOkX_mk Tryz.func151 (by kernel_rfl)
def yord152 : Nat → RHint := fun _ => default
def ylive152 : Nat → Nat := fun n => match n with | 0 => 1 | 1 => 4 | _ => 0
theorem yfok152 : fnOkX Tryz.prog ymoves ycaps 152 Tryz.f152 yord152 := fnOkX_mk Tryz.func152 (by kernel_rfl)
def yord153 : Nat → RHint := fun _ => default
def ylive153 : Nat → Nat := fun n => match n with | 0 => 1 | 1 => 4 | _ => 0
theorem yfok153 : fnOkX Tryz.prog ymoves ycaps 153 Tryz.f153 yord153 := fnOkX_mk Tryz.func153 (by kernel_rfl)
def yord154 : Nat → RHint := fun _ => default
def ylive154 : Nat → Nat := fun n => match n with | 0 => 11 | 1 => 267 | 2 => 11 | 3 => 262155 | _ => 0
theorem yfok154 : fnOkX Tryz.prog ymoves ycaps 154 Tryz.f154 yord154 := fnOkX_mk Tryz.func154 (by kernel_rfl)
def yord155 : Nat → RHint := fun _ => default
def ylive155 : Nat → Nat := fun n => match n with | 0 => 2 | 1 => 4 | _ => 0
theorem yfok155 : fnOkX Tryz.prog ymoves ycaps 155 Tryz.f155 yord155 := fnOkX_mk Tryz.func155 (by kernel_rfl)
def yord156 : Nat → RHint := fun _ => default
def ylive156 : Nat → Nat := fun n => match n with | 0 => 51 | 1 => 65555 | 2 => 0 | _ => 0
theorem yfok156 : fnOkX Tryz.prog ymoves ycaps 156 Tryz.f156 yord156 := fnOkX_mk Tryz.func156 (by kernel_rfl)
def yord157 : Nat → RHint := fun _ => default
def ylive157 : Nat → Nat := fun n => match n with | 0 => 7 | 1 => 32 | _ => 0
theorem yfok157 : fnOkX Tryz.prog ymoves ycaps 157 Tryz.f157 yord157 := fnOkX_mk Tryz.func157 (by kernel_rfl)
def yord158 : Nat → RHint := fun _ => default
def ylive158 : Nat → Nat := fun n => match n with | 0 => 1 | 1 => 4 | _ => 0
theorem yfok158 : fnOkX Tryz.prog ymoves ycaps 158 Tryz.f158 yord158 := fnOkX_mk Tryz.func158 (by kernel_rfl)
def yord159 : Nat → RHint := fun _ => default
def ylive159 : Nat → Nat := fun n => match n with | 0 => 5 | 1 => 0 | _ => 0
theorem yfok159 : fnOkX Tryz.prog ymoves ycaps 159 Tryz.f159 yord159 := fnOkX_mk Tryz.func159 (by kernel_rfl)
def yord160 : Nat → RHint := fun n => match n with | 6 => ⟨[(0, false), (1, false), (2, false), (3, false), (4, false), (5, false), (6, false), (7, false), (8, false), (9, false)], none, [], []⟩ | 11 => ⟨[(0, false), (1, false), (2, false), (3, false), (4, false), (5, false), (6, false), (7, false), (8, false), (9, false)], none, [], []⟩ | _ => default
def ylive160 : Nat → Nat := fun n => match n with | 0 => 1 | 1 => 257 | 2 => 4 | 3 => 9 | 4 => 8201 | 5 => 9 | 6 => 33554441 | 7 => 25 | 8 => 57 | 9 => 4294967353 | 10 => 57 | 11 => 17592186044473 | 12 => 57 | 13 => 57 | 14 => 9 | 15 => 4 | 16 => 4 | _ => 0
theorem yfok160 : fnOkX Tryz.prog ymoves ycaps 160 Tryz.f160 yord160 := fnOkX_mk Tryz.func160 (by kernel_rfl)
def yord161 : Nat → RHint := fun n => match n with | 16 => ⟨[(0, false), (1, false), (3, false), (4, false), (2, true), (5, true), (6, false)], none, [], [7, 8]⟩ | _ => default
def ylive161 : Nat → Nat := fun n => match n with | 0 => 3 | 1 => 32771 | 2 => 48 | 3 => 67 | 4 => 917569 | 5 => 1966145 | 6 => 917825 | 7 => 4295885121 | 8 => 48 | 9 => 918337 | 10 => 60130460417 | 11 => 128849937153 | 12 => 60130462465 | 13 => 3908421159681 | 14 => 8306467670785 | 15 => 3908421167873 | 16 => 3908421159681 | 17 => 3908421159681 | 18 => 60130460417 | 19 => 917569 | 20 => 917569 | 21 => 48 | _ => 0
theorem yfok161 : fnOkX Tryz.prog ymoves ycaps 161 Tryz.f161 yord161 := fnOkX_mk Tryz.func161 (by kernel_rfl)
def yord162 : Nat → RHint := fun _ => default
def ylive162 : Nat → Nat := fun n => match n with | 0 => 7 | 1 => 135 | 2 => 96 | 3 => 2049 | 4 => 96 | 5 => 96 | _ => 0
theorem yfok162 : fnOkX Tryz.prog ymoves ycaps 162 Tryz.f162 yord162 := fnOkX_mk Tryz.func162 (by kernel_rfl)
def yord163 : Nat → RHint := fun _ => default
def ylive163 : Nat → Nat := fun n => match n with | 0 => 1 | 1 => 4 | _ => 0
theorem yfok163 : fnOkX Tryz.prog ymoves ycaps 163 Tryz.f163 yord163 := fnOkX_mk Tryz.func163 (by kernel_rfl)
def yord164 : Nat → RHint := fun _ => default
def ylive164 : Nat → Nat := fun n => match n with | 0 => 56 | 1 => 440 | 2 => 16568 | 3 => 64 | 4 => 64 | _ => 0
theorem yfok164 : fnOkX Tryz.prog ymoves ycaps 164 Tryz.f164 yord164 := fnOkX_mk Tryz.func164 (by kernel_rfl)
def yord165 : Nat → RHint := fun n => match n with | 3 => ⟨[(0, false), (1, false), (2, false), (3, false), (4, false), (5, false), (6, false), (7, false), (8, true), (9, false), (10, false), (11, false), (12, false)], none, [], [13]⟩ | 11 => ⟨[(0, false), (1, false), (2, false), (3, false), (5, false), (4, true), (6, true), (7, false), (8, false), (9, false), (10, false)], none, [], [11]⟩ | _ => default
def ylive165 : Nat → Nat := fun n => match n with | 0 => 49 | 1 => 524337 | 2 => 192 | 3 => 817 | 4 => 34359738673 | 5 => 192 | 6 => 1329 | 7 => 481036338225 | 8 => 1030792152113 | 9 => 481036342321 | 10 => 481036350513 | 11 => 481036387377 | 12 => 481036370993 | 13 => 36893488628455441457 | 14 => 192 | 15 => 481036338225 | 16 => 192 | _ => 0
theorem yfok165 : fnOkX Tryz.prog ymoves ycaps 165 Tryz.f165 yord165 := fnOkX_mk Tryz.func165 (by kernel_rfl)
def yord166 : Nat → RHint := fun _ => default
def ylive166 : Nat → Nat := fun n => match n with | 0 => 1 | 1 => 49 | 2 => 4145 | 3 => 12 | 4 => 12 | _ => 0
theorem yfok166 : fnOkX Tryz.prog ymoves ycaps 166 Tryz.f166 yord166 := fnOkX_mk Tryz.func166 (by kernel_rfl)
def yord167 : Nat → RHint := fun _ => default
def ylive167 : Nat → Nat := fun n => match n with | 0 => 14 | 1 => 142 | 2 => 398 | 3 => 0 | 4 => 32780 | 5 => 1835012 | 6 => 3932164 | 7 => 1835044 | 8 => 1835012 | 9 => 1835012 | _ => 0
theorem yfok167 : fnOkX Tryz.prog ymoves ycaps 167 Tryz.f167 yord167 := fnOkX_mk Tryz.func167 (by kernel_rfl)
def yord168 : Nat → RHint := fun _ => default
def ylive168 : Nat → Nat := fun n => match n with | 0 => 14 | 1 => 16 | _ => 0
theorem yfok168 : fnOkX Tryz.prog ymoves ycaps 168 Tryz.f168 yord168 := fnOkX_mk Tryz.func168 (by kernel_rfl)
def yord169 : Nat → RHint := fun _ => default
def ylive169 : Nat → Nat := fun n => match n with | 0 => 56 | 1 => 114744 | 2 => 245816 | 3 => 115000 | 4 => 115768 | 5 => 134332472 | 6 => 64 | 7 => 114744 | 8 => 6442451000 | 9 => 15032385592 | 10 => 6442453048 | 11 => 6442463288 | 12 => 140743930806328 | 13 => 64 | 14 => 6442451000 | 15 => 64 | _ => 0
theorem yfok169 : fnOkX Tryz.prog ymoves ycaps 169 Tryz.f169 yord169 := fnOkX_mk Tryz.func169 (by kernel_rfl)
def yord170 : Nat → RHint := fun _ => default
def ylive170 : Nat → Nat := fun n => match n with | 0 => 1053 | 1 => 3093 | 2 => 1051669 | 3 => 8391701 | 4 => 3093 | 5 => 3093 | 6 => 3093 | 7 => 3093 | 8 => 0 | _ => 0
theorem yfok170 : fnOkX Tryz.prog ymoves ycaps 170 Tryz.f170 yord170 := fnOkX_mk Tryz.func170 (by kernel_rfl)
def yord171 : Nat → RHint := fun _ => default
def ylive171 : Nat → Nat := fun n => match n with | 0 => 3 | 1 => 67 | 2 => 451 | 3 => 33219 | 4 => 963 | 5 => 134218691 | 6 => 451 | 7 => 451 | 8 => 48 | _ => 0
theorem yfok171 : fnOkX Tryz.prog ymoves ycaps 171 Tryz.f171 yord171 := fnOkX_mk Tryz.func171 (by kernel_rfl)
def yord172 : Nat → RHint := fun n => match n with | 11 => ⟨[(0, false), (1, false), (2, false), (3, false), (4, false), (5, false), (6, false), (7, false)], none, [], [8]⟩ | 15 => ⟨[(0, false), (1, false), (2, false), (3, false), (4, false), (5, false), (6, false), (7, false)], none, [], [8]⟩ | _ => default
def ylive172 : Nat → Nat := fun n => match n with | 0 => 7 | 1 => 7 | 2 => 135 | 3 => 65671 | 4 => 64 | 5 => 391 | 6 => 4194695 | 7 => 64 | 8 => 2147484039 | 9 => 647 | 10 => 643 | 11 => 512 | 12 => 64 | 13 => 391 | 14 => 295147905179352826247 | 15 => 7 | 16 => 1 | 17 => 64 | 18 => 131 | 19 => 1 | 20 => 64 | _ => 0
theorem yfok172 : fnOkX Tryz.prog ymoves ycaps 172 Tryz.f172 yord172 := fnOkX_mk Tryz.func172 (by kernel_rfl)
def yord173 : Nat → RHint := fun n => match n with | 17 => ⟨[(0, false), (1, false), (2, false), (3, false), (4, false), (5, false), (6, false), (7, false), (8, false), (9, false), (10, false), (11, false)], none, [], [12, 13, 14]⟩ | _ => default
def ylive173 : Nat → Nat := fun n => match n with | 0 => 271 | 1 => 783 | 2 => 1807 | 3 => 8390415 | 4 => 0 | 5 => 536872719 | 6 => 0 | 7 => 34359740175 | 8 => 1807 | 9 => 1807 | 10 => 7951 | 11 => 1125899906850575 | 12 => 3855 | 13 => 3855 | 14 => 7951 | 15 => 295147905179352829711 | 16 => 4722366482869645217551 | 17 => 154742504910672534362394383 | 18 => 8973 | 19 => 783 | 20 => 50191 | 21 => 17935 | 22 => 214543 | 23 => 475663 | 24 => 10384593717069655257060992658915855 | 25 => 17167 | 26 => 17165 | 27 => 783 | 28 => 17167 | 29 => 17163 | 30 => 783 | _ => 0
theorem yfok173 : fnOkX Tryz.prog ymoves ycaps 173 Tryz.f173 yord173 := fnOkX_mk Tryz.func173 (by kernel_rfl)
def yord174 : Nat → RHint := fun _ => default
def ylive174 : Nat → Nat := fun n => match n with | 0 => 1 | 1 => 4 | 2 => 4 | _ => 0
theorem yfok174 : fnOkX Tryz.prog ymoves ycaps 174 Tryz.f174 yord174 := fnOkX_mk Tryz.func174 (by kernel_rfl)
def yord175 : Nat → RHint := fun _ => default
def ylive175 : Nat → Nat := fun n => match n with | 0 => 3 | 1 => 16 | _ => 0
theorem yfok175 : fnOkX Tryz.prog ymoves ycaps 175 Tryz.f175 yord175 := fnOkX_mk Tryz.func175 (by kernel_rfl)
def yord176 : Nat → RHint := fun _ => default
def ylive176 : Nat → Nat := fun n => match n with | 0 => 1 | 1 => 4 | _ => 0
theorem yfok176 : fnOkX Tryz.prog ymoves ycaps 176 Tryz.f176 yord176 := fnOkX_mk Tryz.func176 (by kernel_rfl)
def yord177 : Nat → RHint := fun _ => default
def ylive177 : Nat → Nat := fun n => match n with | 0 => 1 | 1 => 17 | 2 => 4 | 3 => 4 | _ => 0
theorem yfok177 : fnOkX Tryz.prog ymoves ycaps 177 Tryz.f177 yord177 := fnOkX_mk Tryz.func177 (by kernel_rfl)
def yord178 : Nat → RHint := fun _ => default
def ylive178 : Nat → Nat := fun n => match n with | 0 => 1 | 1 => 4 | _ => 0
theorem yfok178 : fnOkX Tryz.prog ymoves ycaps 178 Tryz.f178 yord178 := fnOkX_mk Tryz.func178 (by kernel_rfl)
def yord179 : Nat → RHint := fun _ => default
def ylive179 : Nat → Nat := fun n => match n with | 0 => 30 | 1 => 32 | _ => 0
theorem yfok179 : fnOkX Tryz.prog ymoves ycaps 179 Tryz.f179 yord179 := fnOkX_mk Tryz.func179 (by kernel_rfl)
def yord180 : Nat → RHint := fun n => match n with | 15 => ⟨[(0, false), (1, false), (2, false), (3, false), (4, false), (5, false), (6, true), (7, false), (8, true), (9, false)], none, [1], [10]⟩ | _ => default
def ylive180 : Nat → Nat := fun n => match n with | 0 => 406 | 1 => 1942 | 2 => 525206 | 3 => 4194706 | 4 => 402 | 5 => 2147484048 | 6 => 256 | 7 => 256 | 8 => 68719477142 | 9 => 256 | 10 => 2454 | 11 => 2454 | 12 => 15393162791302 | 13 => 32985348835718 | 14 => 15393162799494 | 15 => 15393162791302 | 16 => 15393162791302 | 17 => 256 | _ => 0
theorem yfok180 : fnOkX Tryz.prog ymoves ycaps 180 Tryz.f180 yord180 := fnOkX_mk Tryz.func180 (by kernel_rfl)
def yord181 : Nat → RHint := fun _ => default
def ylive181 : Nat → Nat := fun n => match n with | 0 => 3 | 1 => 8 | _ => 0
theorem yfok181 : fnOkX Tryz.prog ymoves ycaps 181 Tryz.f181 yord181 := fnOkX_mk Tryz.func181 (by kernel_rfl)
def yord182 : Nat → RHint := fun _ => default
def ylive182 : Nat → Nat := fun n => match n with | 0 => 1 | 1 => 17 | 2 => 1073741825 | 3 => 33 | 4 => 549755813921 | 5 => 33 | 6 => 17592186044449 | 7 => 12 | 8 => 97 | 9 => 985162418487392 | 10 => 2111062325330016 | 11 => 985162418487648 | 12 => 985162418487648 | 13 => 73042756456415584 | 14 => 12 | 15 => 985162418487392 | 16 => 985162418487392 | 17 => 73786976294838206528 | 18 => 64 | 19 => 12 | 20 => 1536 | 21 => 12 | _ => 0
theorem yfok182 : fnOkX Tryz.prog ymoves ycaps 182 Tryz.f182 yord182 := fnOkX_mk Tryz.func182 (by kernel_rfl)
def yord183 : Nat → RHint := fun _ => default
def ylive183 : Nat → Nat := fun n => match n with | 0 => 31 | 1 => 2079 | 2 => 6175 | 3 => 1024 | 4 => 526367 | 5 => 1024 | 6 => 67110943 | 7 => 1024 | 8 => 17179869211 | 9 => 1024 | 10 => 1024 | _ => 0
theorem yfok183 : fnOkX Tryz.prog ymoves ycaps 183 Tryz.f183 yord183 := fnOkX_mk Tryz.func183 (by kernel_rfl)
def yord184 : Nat → RHint := fun n => match n with | 2 => ⟨[], none, [], [1000000]⟩ | 8 => ⟨[(0, false), (1, false), (2, false), (3, false), (4, false), (5, false), (6, false), (7, false), (8, false), (9, false), (10, false), (11, false), (12, false), (13, false), (14, false), (15, false), (16, false), (17, false), (18, false), (19, false), (20, false)], none, [], [21, 22, 23]⟩ | 14 => ⟨[(0, false), (1, false), (2, false), (3, false), (4, false), (5, false), (6, false), (7, false), (8, false)], none, [], [9, 10]⟩ | _ => default
def ylive184 : Nat → Nat := fun n => match n with | 0 => 49 | 1 => 305 | 2 => 816 | 3 => 274877907744 | 4 => 192 | 5 => 30786325578528 | 6 => 65970697667360 | 7 => 30786325580576 | 8 => 2361183272221148185376 | 9 => 192 | 10 => 30786325578528 | 11 => 132226261520350065984000 | 12 => 283341988972178712822272 | 13 => 132226261520350065996288 | 14 => 2476012304832280899864232448 | 15 => 192 | 16 => 132226261520350065984000 | 17 => 192 | _ => 0
theorem yfok184 : fnOkX Tryz.prog ymoves ycaps 184 Tryz.f184 yord184 := fnOkX_mk Tryz.func184 (by kernel_rfl)
def yord185 : Nat → RHint := fun n => match n with | 2 => ⟨[(0, false), (1, false), (2, false), (3, false), (4, false), (5, false), (6, false), (7, false), (8, false), (9, false), (10, false), (11, false), (12, false), (13, false), (14, false), (15, false), (16, false), (17, false), (18, false), (19, false), (20, false), (21, false), (22, false), (23, false), (24, false), (25, false), (26, false), (27, false)], none, [], [28, 29, 30]⟩ | 6 => ⟨[(0, false), (1, false), (2, false), (3, false), (4, false), (5, false), (6, false), (7, false), (8, false), (9, true), (10, false), (11, false), (12, false), (13, false)], none, [], [14]⟩ | _ => default
def ylive185 : Nat → Nat := fun n => match n with | 0 => 6 | 1 => 70 | 2 => 140737488355398 | 3 => 48 | 4 => 198 | 5 => 454 | 6 => 898 | 7 => 2946 | 8 => 8264141345021879126402 | 9 => 17708874310761169553794 | 10 => 8264141345021879134594 | 11 => 8264141345021879150978 | 12 => 8264141345021879126402 | 13 => 8264141345021879126402 | 14 => 48 | _ => 0
theorem yfok185 : fnOkX Tryz.prog ymoves ycaps 185 Tryz.f185 yord185 := fnOkX_mk Tryz.func185 (by kernel_rfl)
def yord186 : Nat → RHint := fun _ => default
def ylive186 : Nat → Nat := fun n => match n with | 0 => 14 | 1 => 16 | _ => 0
theorem yfok186 : fnOkX Tryz.prog ymoves ycaps 186 Tryz.f186 yord186 := fnOkX_mk Tryz.func186 (by kernel_rfl)
def yord187 : Nat → RHint := fun n => match n with | 3 => ⟨[], some 999999, [], []⟩ | _ => default
def ylive187 : Nat → Nat := fun n => match n with | 0 => 1039 | 1 => 9231 | 2 => 1039 | 3 => 1039 | _ => 0
theorem yfok187 : fnOkX Tryz.prog ymoves ycaps 187 Tryz.f187 yord187 := fnOkX_mk Tryz.func187 (by kernel_rfl)
def yord188 : Nat → RHint := fun _ => default
def ylive188 : Nat → Nat := fun n => match n with | 0 => 3 | 1 => 16 | _ => 0
theorem yfok188 : fnOkX Tryz.prog ymoves ycaps 188 Tryz.f188 yord188 := fnOkX_mk Tryz.func188 (by kernel_rfl)
def yord189 : Nat → RHint := fun _ => default
def ylive189 : Nat → Nat := fun n => match n with | 0 => 1 | 1 => 4 | _ => 0
theorem yfok189 : fnOkX Tryz.prog ymoves ycaps 189 Tryz.f189 yord189 := fnOkX_mk Tryz.func189 (by kernel_rfl)
def yord191 : Nat → RHint := fun _ => default
def ylive191 : Nat → Nat := fun n => match n with | 0 => 0 | _ => 0
theorem yfok191 : fnOkX Tryz.prog ymoves ycaps 191 Tryz.f191 yord191 := fnOkX_mk Tryz.func191 (by kernel_rfl)
def yord192 : Nat → RHint := fun n => match n with | 4 => ⟨[(0, false), (1, false), (2, false), (3, false), (4, false), (5, false), (6, false), (7, false), (8, false), (9, false), (10, false), (11, false), (12, false)], none, [], [13, 14]⟩ | 6 => ⟨[], some 999999, [], []⟩ | _ => default
def ylive192 : Nat → Nat := fun n => match n with | 0 => 71 | 1 => 4167 | 2 => 71 | 3 => 199 | 4 => 1073742023 | 5 => 199 | 6 => 199 | _ => 0
theorem yfok192 : fnOkX Tryz.prog ymoves ycaps 192 Tryz.f192 yord192 := fnOkX_mk Tryz.func192 (by kernel_rfl)
def yord193 : Nat → RHint := fun n => match n with | 10 => ⟨[], some 999999, [], []⟩ | _ => default
def ylive193 : Nat → Nat := fun n => match n with | 0 => 71 | 1 => 199 | 2 => 449 | 3 => 961 | 4 => 525249 | 5 => 961 | 6 => 961 | 7 => 1217 | 8 => 1073743041 | 9 => 1217 | 10 => 1217 | 11 => 1217 | _ => 0
theorem yfok193 : fnOkX Tryz.prog ymoves ycaps 193 Tryz.f193 yord193 := fnOkX_mk Tryz.func193 (by kernel_rfl)
def yord194 : Nat → RHint := fun n => match n with | 10 => ⟨[], some 999999, [], []⟩ | _ => default
def ylive194 : Nat → Nat := fun n => match n with | 0 => 67 | 1 => 32835 | 2 => 195 | 3 => 451 | 4 => 963 | 5 => 8589935555 | 6 => 963 | 7 => 1987 | 8 => 8796093024195 | 9 => 1987 | 10 => 963 | _ => 0
theorem yfok194 : fnOkX Tryz.prog ymoves ycaps 194 Tryz.f194 yord194 := fnOkX_mk Tryz.func194 (by kernel_rfl)
def yord195 : Nat → RHint := fun _ => default
def ylive195 : Nat → Nat := fun n => match n with | 0 => 7 | 1 => 259 | 2 => 771 | 3 => 1795 | 4 => 3843 | 5 => 7937 | 6 => 4294975233 | 7 => 17179876865 | 8 => 7681 | 9 => 7681 | 10 => 7681 | 11 => 2560 | 12 => 562949953423360 | 13 => 192 | 14 => 2814749767108608 | 15 => 192 | 16 => 18014398509484032 | 17 => 192 | _ => 0
theorem yfok195 : fnOkX Tryz.prog ymoves ycaps 195 Tryz.f195 yord195 := fnOkX_mk Tryz.func195 (by kernel_rfl)
def yord196 : Nat → RHint := fun n => match n with | 3 => ⟨[(0, false), (1, false), (2, false), (3, false), (4, false), (5, false), (6, false), (7, false), (8, false), (9, false), (10, false), (11, false), (12, false), (13, true), (14, false), (15, true)], none, [], []⟩ | _ => default
def ylive196 : Nat → Nat := fun n => match n with | 0 => 69 | 1 => 193 | 2 => 8385 | 3 => 193 | 4 => 193 | 5 => 193 | _ => 0
theorem yfok196 : fnOkX Tryz.prog ymoves ycaps 196 Tryz.f196 yord196 := fnOkX_mk Tryz.func196 (by kernel_rfl)
def yord197 : Nat → RHint := fun n => match n with | 5 => ⟨[(0, false), (1, false), (2, false), (3, false), (4, false), (5, false), (6, false), (7, false), (8, false), (9, false), (10, false), (11, false), (12, false)], none, [], [13, 14, 15]⟩ | 11 => ⟨[], some 999999, [], []⟩ | 16 => ⟨[(0, false), (1, false), (2, false), (3, false), (4, false), (5, false), (6, false), (7, false), (8, false)], none, [], [9, 10]⟩ | 17 => ⟨[], some 999999, [], []⟩ | 22 => ⟨[(0, false), (1, false), (2, false), (3, false), (4, false), (5, false), (6, false), (7, false), (8, false)], none, [], [9, 10]⟩ | 23 => ⟨[], some 999999, [], []⟩ | _ => default
def ylive197 : Nat → Nat := fun n => match n with | 0 => 7 | 1 => 135 | 2 => 391 | 3 => 16775 | 4 => 391 | 5 => 4294967687 | 6 => 391 | 7 => 137438953863 | 8 => 64 | 9 => 2199023255943 | 10 => 64 | 11 => 391 | 12 => 2305843009213694343 | 13 => 903 | 14 => 36893488147419104135 | 15 => 903 | 16 => 302231454903657293677447 | 17 => 903 | 18 => 316912650057057350374175801735 | 19 => 1415 | 20 => 10141204801825835211973625644423 | 21 => 1415 | 22 => 83076749736557242056487941267522951 | 23 => 1415 | 24 => 64 | _ => 0
theorem yfok197 : fnOkX Tryz.prog ymoves ycaps 197 Tryz.f197 yord197 := fnOkX_mk Tryz.func197 (by kernel_rfl)
def yord198 : Nat → RHint := fun n => match n with | 1 => ⟨[(0, false), (1, false), (2, false), (3, false), (4, false), (5, false), (6, false), (7, false), (8, false), (9, false), (10, false), (11, false), (12, false), (13, true), (14, false), (15, true)], none, [], []⟩ | 3 => ⟨[(0, false), (1, false), (2, false), (3, false), (4, false), (5, false), (6, false), (7, false), (8, false), (9, false), (10, false), (11, false)], none, [], [12, 13, 14]⟩ | 5 => ⟨[(0, false), (1, false), (2, false), (3, false), (4, false), (5, false), (6, false), (7, false), (8, false), (9, false), (10, false), (11, false)], none, [], [12, 13]⟩ | 8 => ⟨[(0, false), (1, false), (2, false), (3, false), (4, false), (5, false), (6, false), (7, false), (8, false), (9, false), (10, false), (11, false), (12, false), (13, true), (14, false), (15, true)], none, [], []⟩ | _ => default
def ylive198 : Nat → Nat := fun n => match n with | 0 => 15 | 1 => 7 | 2 => 1539 | 3 => 8796093023747 | 4 => 1539 | 5 => 576460752303425027 | 6 => 1539 | 7 => 18446744073709553155 | 8 => 1539 | 9 => 1539 | 10 => 1539 | 11 => 256 | _ => 0
theorem yfok198 : fnOkX Tryz.prog ymoves ycaps 198 Tryz.f198 yord198 := fnOkX_mk Tryz.func198 (by kernel_rfl)
def yord199 : Nat → RHint := fun n => match n with | 1 => ⟨[(0, false), (1, false), (2, false), (3, false), (4, false), (5, false), (6, false), (7, false), (8, false), (9, false), (10, false), (11, false), (12, false), (13, true), (14, false), (15, true)], none, [], []⟩ | 3 => ⟨[(0, false), (1, false), (2, false), (3, false), (4, false), (5, false), (6, false), (7, false), (8, false), (9, false), (10, false), (11, false)], none, [], [12, 13]⟩ | 5 => ⟨[(0, false), (1, false), (2, false), (3, false), (4, false), (5, false), (6, false), (7, false), (8, false), (9, false), (10, false), (11, false)], none, [], [12, 13, 14]⟩ | 8 => ⟨[(0, false), (1, false), (2, false), (3, false), (4, false), (5, false), (6, false), (7, false), (8, false), (9, false), (10, false), (11, false), (12, false), (13, true), (14, false), (15, true)], none, [], []⟩ | 10 => ⟨[(0, false), (1, false), (2, false), (3, false), (4, false), (5, false), (6, false), (7, false), (8, false), (9, false), (10, false), (11, false), (12, false), (13, true), (14, false), (15, true)], none, [], []⟩ | 13 => ⟨[(0, false), (1, false), (2, false), (3, false), (4, false), (5, false), (6, false), (7, false), (8, false), (9, false), (10, false), (11, false)], none, [], [12, 13]⟩ | 15 => ⟨[(0, false), (1, false), (2, false), (3, false), (4, false), (5, false), (6, false), (7, false), (8, false), (9, false), (10, false), (11, false)], none, [], [12, 13, 14]⟩ | 18 => ⟨[(0, false), (1, false), (2, false), (3, false), (4, false), (5, false), (6, false), (7, false), (8, false), (9, false), (10, false), (11, false), (12, false), (13, true), (14, false), (15, true)], none, [], []⟩ | 21 => ⟨[(0, false), (1, false), (2, false), (3, false), (4, false), (5, false), (6, false), (7, false), (8, false), (9, false), (10, false), (11, false), (12, false), (13, true), (14, false), (15, true)], none, [], []⟩ | _ => default
def ylive199 : Nat → Nat := fun n => match n with | 0 => 15 | 1 => 7 | 2 => 3075 | 3 => 8796093025283 | 4 => 3075 | 5 => 1152921504606850051 | 6 => 3075 | 7 => 36893488147419106307 | 8 => 2048 | 9 => 768 | 10 => 3075 | 11 => 3075 | 12 => 3075 | 13 => 5192296858534827628530496329223171 | 14 => 3075 | 15 => 680564733841876926926749214863536425987 | 16 => 3075 | 17 => 21778071482940061661655974875633165536259 | 18 => 3075 | 19 => 3075 | 20 => 3075 | 21 => 2048 | 22 => 768 | _ => 0
theorem yfok199 : fnOkX Tryz.prog ymoves ycaps 199 Tryz.f199 yord199 := fnOkX_mk Tryz.func199 (by kernel_rfl)
def yord200 : Nat → RHint := fun _ => default
def ylive200 : Nat → Nat := fun n => match n with | 0 => 5 | 1 => 21 | 2 => 1 | 3 => 5 | 4 => 261 | 5 => 5 | 6 => 5 | 7 => 4 | _ => 0
theorem yfok200 : fnOkX Tryz.prog ymoves ycaps 200 Tryz.f200 yord200 := fnOkX_mk Tryz.func200 (by kernel_rfl)
def yord201 : Nat → RHint := fun _ => default
def ylive201 : Nat → Nat := fun n => match n with | 0 => 5 | 1 => 21 | 2 => 1 | 3 => 5 | 4 => 261 | 5 => 5 | 6 => 5 | 7 => 16389 | 8 => 5 | 9 => 5 | 10 => 4 | _ => 0
theorem yfok201 : fnOkX Tryz.prog ymoves ycaps 201 Tryz.f201 yord201 := fnOkX_mk Tryz.func201 (by kernel_rfl)
def yord202 : Nat → RHint := fun _ => default
def ylive202 : Nat → Nat := fun n => match n with | 0 => 3 | 1 => 387 | 2 => 899 | 3 => 419 | 4 => 65955 | 5 => 16 | 6 => 387 | 7 => 16 | _ => 0
theorem yfok202 : fnOkX Tryz.prog ymoves ycaps 202 Tryz.f202 yord202 := fnOkX_mk Tryz.func202 (by kernel_rfl)
def yord203 : Nat → RHint := fun _ => default
def ylive203 : Nat → Nat := fun n => match n with | 0 => 3 | 1 => 2051 | 2 => 131073 | 3 => 16 | 4 => 33 | 5 => 97 | 6 => 8388705 | 7 => 97 | 8 => 225 | 9 => 161 | 10 => 17179869344 | 11 => 160 | 12 => 16 | 13 => 16 | 14 => 512 | 15 => 16 | _ => 0
theorem yfok203 : fnOkX Tryz.prog ymoves ycaps 203 Tryz.f203 yord203 := fnOkX_mk Tryz.func203 (by kernel_rfl)
def yord204 : Nat → RHint := fun _ => default
def ylive204 : Nat → Nat := fun n => match n with | 0 => 7 | 1 => 8199 | 2 => 192 | 3 => 263 | 4 => 65799 | 5 => 196871 | 6 => 263 | 7 => 2097415 | 8 => 7 | 9 => 263 | 10 => 263 | 11 => 900 | 12 => 274877907844 | 13 => 192 | 14 => 2199023256324 | 15 => 772 | 16 => 1792 | 17 => 4503599627372288 | 18 => 192 | 19 => 4611686018427389696 | 20 => 192 | 21 => 2304 | 22 => 590295810358705653760 | 23 => 2048 | 24 => 192 | _ => 0
theorem yfok204 : fnOkX Tryz.prog ymoves ycaps 204 Tryz.f204 yord204 := fnOkX_mk Tryz.func204 (by kernel_rfl)
def yord205 : Nat → RHint := fun n => match n with | 1 => ⟨[(0, false), (1, false), (3, false), (2, true), (4, false)], none, [], [5, 6]⟩ | _ => default
def ylive205 : Nat → Nat := fun n => match n with | 0 => 3 | 1 => 16 | _ => 0
theorem yfok205 : fnOkX Tryz.prog ymoves ycaps 205 Tryz.f205 yord205 := fnOkX_mk Tryz.func205 (by kernel_rfl)
def yord206 : Nat → RHint := fun n => match n with | 1 => ⟨[(0, false), (1, false), (3, false), (2, true), (4, false)], none, [], [5, 6]⟩ | _ => default
def ylive206 : Nat → Nat := fun n => match n with | 0 => 3 | 1 => 16 | _ => 0
theorem yfok206 : fnOkX Tryz.prog ymoves ycaps 206 Tryz.f206 yord206 := fnOkX_mk Tryz.func206 (by kernel_rfl)
def yord207 : Nat → RHint := fun _ => default
def ylive207 : Nat → Nat := fun n => match n with | 0 => 7 | 1 => 64 | _ => 0
theorem yfok207 : fnOkX Tryz.prog ymoves ycaps 207 Tryz.f207 yord207 := fnOkX_mk Tryz.func207 (by kernel_rfl)
def yord208 : Nat → RHint := fun _ => default
def ylive208 : Nat → Nat := fun n => match n with | 0 => 7 | 1 => 64 | _ => 0
theorem yfok208 : fnOkX Tryz.prog ymoves ycaps 208 Tryz.f208 yord208 := fnOkX_mk Tryz.func208 (by kernel_rfl)
def yord209 : Nat → RHint := fun n => match n with | 5 => ⟨[(0, false), (1, false), (2, false), (3, false), (4, false), (5, false), (6, false), (7, false), (8, false), (9, false), (10, true), (11, false), (12, false)], none, [4], [13]⟩ | 10 => ⟨[(0, false), (1, false), (2, false), (3, false), (4, false), (5, false), (6, false), (11, false), (7, true), (8, false), (9, false), (10, false)], some 11, [], [12, 13]⟩ | _ => default
def ylive209 : Nat → Nat := fun n => match n with | 0 => 49 | 1 => 1073 | 2 => 3121 | 3 => 64 | 4 => 9265 | 5 => 0 | 6 => 64 | 7 => 268436529 | 8 => 64 | 9 => 4398046511153 | 10 => 417 | 11 => 64 | 12 => 64 | _ => 0
theorem yfok209 : fnOkX Tryz.prog ymoves ycaps 209 Tryz.f209 yord209 := fnOkX_mk Tryz.func209 (by kernel_rfl)
def yord210 : Nat → RHint := fun _ => default
def ylive210 : Nat → Nat := fun n => match n with | 0 => 3 | 1 => 16 | _ => 0
theorem yfok210 : fnOkX Tryz.prog ymoves ycaps 210 Tryz.f210 yord210 := fnOkX_mk Tryz.func210 (by kernel_rfl)
def yord211 : Nat → RHint := fun n => match n with | 2 => ⟨[(0, false), (1, false), (2, false), (3, false), (4, false), (6, false), (5, true)], none, [], [7, 8, 9]⟩ | 5 => ⟨[(0, false), (1, false), (2, false), (3, false), (4, false), (5, false), (6, false), (11, false), (7, true), (8, false), (9, false), (10, false)], some 11, [], [12, 13]⟩ | _ => default
def ylive211 : Nat → Nat := fun n => match n with | 0 => 56 | 1 => 568 | 2 => 64 | 3 => 2097208 | 4 => 64 | 5 => 424 | 6 => 64 | _ => 0
theorem yfok211 : fnOkX Tryz.prog ymoves ycaps 211 Tryz.f211 yord211 := fnOkX_mk Tryz.func211 (by kernel_rfl)
def yord212 : Nat → RHint := fun _ => default
def ylive212 : Nat → Nat := fun n => match n with | 0 => 28 | 1 => 16 | _ => 0
theorem yfok212 : fnOkX Tryz.prog ymoves ycaps 212 Tryz.f212 yord212 := fnOkX_mk Tryz.func212 (by kernel_rfl)
def yord213 : Nat → RHint := fun _ => default
def ylive213 : Nat → Nat := fun n => match n with | 0 => 0 | 1 => 4 | _ => 0
theorem yfok213 : fnOkX Tryz.prog ymoves ycaps 213 Tryz.f213 yord213 := fnOkX_mk Tryz.func213 (by kernel_rfl)
def yord214 : Nat → RHint := fun _ => default
def ylive214 : Nat → Nat := fun n => match n with | 0 => 3 | 1 => 1 | 2 => 0 | _ => 0
theorem yfok214 : fnOkX Tryz.prog ymoves ycaps 214 Tryz.f214 yord214 := fnOkX_mk Tryz.func214 (by kernel_rfl)
def yord215 : Nat → RHint := fun n => match n with | 3 => ⟨[(0, false), (1, false), (2, false), (3, false), (4, false), (5, false), (6, false), (7, false), (8, false), (9, false), (10, false), (11, false), (12, false), (13, false), (14, false), (15, false), (16, false), (17, false)], none, [], [18, 19]⟩ | 5 => ⟨[(0, false), (1, false), (2, false), (3, false), (4, false), (5, false), (6, false), (7, false), (8, false), (9, false), (10, false), (11, false)], none, [], [12, 13]⟩ | 6 => ⟨[], some 999999, [], []⟩ | _ => default
def ylive215 : Nat → Nat := fun n => match n with | 0 => 269 | 1 => 781 | 2 => 66317 | 3 => 68719477517 | 4 => 781 | 5 => 4503599627371277 | 6 => 525 | 7 => 269 | _ => 0
theorem yfok215 : fnOkX Tryz.prog ymoves ycaps 215 Tryz.f215 yord215 := fnOkX_mk Tryz.func215 (by kernel_rfl)
def yord216 : Nat → RHint := fun _ => default
def ylive216 : Nat → Nat := fun n => match n with | 0 => 1 | 1 => 4 | _ => 0
theorem yfok216 : fnOkX Tryz.prog ymoves ycaps 216 Tryz.f216 yord216 := fnOkX_mk Tryz.func216 (by kernel_rfl)
def yord217 : Nat → RHint := fun n => match n with | 1 => ⟨[(0, false), (1, false), (2, false), (3, false), (4, false), (5, false), (6, false), (7, false), (8, false)], none, [], [9]⟩ | 2 => ⟨[(0, false), (1, false), (2, false), (3, false), (4, false), (5, false), (6, false), (7, false), (8, false)], none, [], [9]⟩ | 3 => ⟨[(0, false), (1, false), (2, false), (3, false), (4, false), (5, false), (6, false), (7, false), (8, false)], none, [], [9]⟩ | _ => default
def ylive217 : Nat → Nat := fun n => match n with | 0 => 1 | 1 => 1 | 2 => 1 | 3 => 1 | 4 => 4 | _ => 0
theorem yfok217 : fnOkX Tryz.prog ymoves ycaps 217 Tryz.f217 yord217 := fnOkX_mk Tryz.func217 (by kernel_rfl)
def yord218 : Nat → RHint := fun _ => default
def ylive218 : Nat → Nat := fun n => match n with | 0 => 7 | 1 => 64 | _ => 0
theorem yfok218 : fnOkX Tryz.prog ymoves ycaps 218 Tryz.f218 yord218 := fnOkX_mk Tryz.func218 (by kernel_rfl)
def yord219 : Nat → RHint := fun _ => default
def ylive219 : Nat → Nat := fun n => match n with | 0 => 31 | 1 => 31 | 2 => 23 | 3 => 4 | 4 => 1024 | _ => 0
theorem yfok219 : fnOkX Tryz.prog ymoves ycaps 219 Tryz.f219 yord219 := fnOkX_mk Tryz.func219 (by kernel_rfl)
def yord220 : Nat → RHint := fun _ => default
def ylive220 : Nat → Nat := fun n => match n with | 0 => 1 | 1 => 17 | 2 => 4 | 3 => 4 | _ => 0
theorem yfok220 : fnOkX Tryz.prog ymoves ycaps 220 Tryz.f220 yord220 := fnOkX_mk Tryz.func220 (by kernel_rfl)
def yord221 : Nat → RHint := fun _ => default
def ylive221 : Nat → Nat := fun n => match n with | 0 => 1 | 1 => 9 | 2 => 4 | _ => 0
theorem yfok221 : fnOkX Tryz.prog ymoves ycaps 221 Tryz.f221 yord221 := fnOkX_mk Tryz.func221 (by kernel_rfl)
def yord222 : Nat → RHint := fun n => match n with | 7 => ⟨[], some 999999, [], []⟩ | 8 => ⟨[], some 999999, [], []⟩ | 9 => ⟨[], some 999999, [], []⟩ | 10 => ⟨[], some 999999, [], []⟩ | 17 => ⟨[], some 999999, [], []⟩ | 18 => ⟨[], some 999999, [], []⟩ | 23 => ⟨[], some 999999, [], []⟩ | _ => default
def ylive222 : Nat → Nat := fun n => match n with | 0 => 19 | 1 => 1048595 | 2 => 51 | 3 => 51 | 4 => 211 | 5 => 851 | 6 => 3859 | 7 => 3347 | 8 => 3091 | 9 => 1043 | 10 => 19 | 11 => 19 | 12 => 4113 | 13 => 633825300114114700748351606801 | 14 => 12305 | 15 => 12305 | 16 => 53265 | 17 => 20497 | 18 => 4113 | 19 => 4113 | 20 => 696898287454081973172991196020261297066001 | 21 => 69649 | 22 => 69649 | 23 => 4113 | 24 => 4113 | 25 => 2923003274661805836407369665432566039311865090049 | 26 => 0 | _ => 0
theorem yfok222 : fnOkX Tryz.prog ymoves ycaps 222 Tryz.f222 yord222 := fnOkX_mk Tryz.func222 (by kernel_rfl)
def yord223 : Nat → RHint := fun _ => default
def ylive223 : Nat → Nat := fun n => match n with | 0 => 3103 | 1 => 268438559 | 2 => 3103 | 3 => 7199 | 4 => 15391 | 5 => 1073757215 | 6 => 15391 | 7 => 17179884575 | 8 => 31775 | 9 => 64543 | 10 => 130075 | 11 => 70368744307739 | 12 => 130075 | 13 => 130075 | 14 => 130075 | 15 => 15387 | 16 => 15385 | 17 => 146459 | 18 => 295147905179352972315 | 19 => 146459 | 20 => 408603 | 21 => 408601 | 22 => 146459 | 23 => 15387 | 24 => 15385 | 25 => 618970019642690137449577489 | 26 => 15377 | 27 => 15377 | 28 => 19807040628566084398386002945 | 29 => 3072 | 30 => 3072 | _ => 0
theorem yfok223 : fnOkX Tryz.prog ymoves ycaps 223 Tryz.f223 yord223 := fnOkX_mk Tryz.func223 (by kernel_rfl)
def yord224 : Nat → RHint := fun _ => default
def ylive224 : Nat → Nat := fun n => match n with | 0 => 7 | 1 => 524295 | 2 => 192 | 3 => 263 | 4 => 775 | 5 => 192 | 6 => 33555207 | 7 => 4294968069 | 8 => 775 | 9 => 137438954247 | 10 => 775 | 11 => 775 | 12 => 1099511628549 | 13 => 775 | 14 => 775 | 15 => 4503599627371269 | 16 => 775 | 17 => 775 | 18 => 18446744073709552389 | 19 => 775 | 20 => 775 | 21 => 151115727451828646839047 | 22 => 775 | 23 => 9671406556917033397650183 | 24 => 192 | 25 => 775 | 26 => 38685626227668133590598407 | 27 => 1799 | 28 => 1276625665513048408489722631 | 29 => 1799 | 30 => 4951760157141521099596497671 | 31 => 1799 | 32 => 3843 | 33 => 7939 | 34 => 16131 | 35 => 4436777100798802905238461234946 | 36 => 9507379501711720511225274056450 | 37 => 4436777100798802905238461267714 | 38 => 4436777100798802905238461267714 | 39 => 192 | 40 => 85566415515405484601027466411778 | 41 => 4436777100798802905238461234946 | 42 => 5196733635635626431435734790487810 | 43 => 4436777100798802905238461300482 | 44 => 2658460428346932544610519359021956866 | 45 => 4436777100798802905238461300482 | 46 => 174224571867957270394046601910303785565954 | 47 => 192 | 48 => 2787593149820764669792763586986283649548034 | 49 => 192 | 50 => 4436777100798802905238461300482 | 51 => 4436777100798802905238461366018 | 52 => 730750818665451463538619517156944415066427629314 | 53 => 192 | 54 => 4436777100798802905238461234946 | 55 => 4436777100798802905238461234946 | 56 => 748288838313422294120286634350736906063837462011904 | 57 => 192 | 58 => 192 | _ => 0
theorem yfok224 : fnOkX Tryz.prog ymoves ycaps 224 Tryz.f224 yord224 := fnOkX_mk Tryz.func224 (by kernel_rfl)
def yord225 : Nat → RHint := fun _ => default
def ylive225 : Nat → Nat := fun n => match n with | 0 => 1 | 1 => 65 | 2 => 4 | 3 => 9 | 4 => 8 | 5 => 4 | _ => 0
theorem yfok225 : fnOkX Tryz.prog ymoves ycaps 225 Tryz.f225 yord225 := fnOkX_mk Tryz.func225 (by kernel_rfl)
def yord226 : Nat → RHint := fun _ => default
def ylive226 : Nat → Nat := fun n => match n with | 0 => 1 | 1 => 4 | _ => 0
theorem yfok226 : fnOkX Tryz.prog ymoves ycaps 226 Tryz.f226 yord226 := fnOkX_mk Tryz.func226 (by kernel_rfl)
def yord227 : Nat → RHint := fun _ => default
def ylive227 : Nat → Nat := fun n => match n with | 0 => 7 | 1 => 16391 | 2 => 64 | 3 => 229382 | 4 => 491526 | 5 => 229766 | 6 => 230150 | 7 => 1073971206 | 8 => 64 | 9 => 229382 | 10 => 64 | _ => 0
theorem yfok227 : fnOkX Tryz.prog ymoves ycaps 227 Tryz.f227 yord227 := fnOkX_mk Tryz.func227 (by kernel_rfl)
def yord228 : Nat → RHint := fun _ => default
def ylive228 : Nat → Nat := fun n => match n with | 0 => 85 | 1 => 4181 | 2 => 65621 | 3 => 192 | 4 => 4194389 | 5 => 341 | 6 => 85 | 7 => 192 | _ => 0
theorem yfok228 : fnOkX Tryz.prog ymoves ycaps 228 Tryz.f228 yord228 := fnOkX_mk Tryz.func228 (by kernel_rfl)
def yord229 : Nat → RHint := fun n => match n with | 1 => ⟨[(0, false), (1, false), (2, false), (3, false), (4, false), (5, false), (6, false), (7, false), (8, false), (9, false), (10, false), (11, false), (12, false), (13, false), (14, false), (15, false), (16, false), (17, false)], none, [], [18]⟩ | 3 => ⟨[(0, false), (1, false), (2, false), (3, false), (4, false), (5, false), (6, false), (7, false), (8, false), (9, false), (10, false), (11, false), (12, false)], none, [], [13]⟩ | 4 => ⟨[(0, false), (1, false), (2, false), (3, false), (4, false), (5, false), (6, false), (7, false), (8, false), (9, false)], none, [], [10, 11]⟩ | 6 => ⟨[], some 999999, [], []⟩ | 9 => ⟨[(0, false), (1, true), (2, false), (3, false), (4, false), (5, false), (6, false), (7, false), (8, false)], none, [], [9, 10, 11]⟩ | _ => default
def ylive229 : Nat → Nat := fun n => match n with | 0 => 49 | 1 => 177 | 2 => 64 | 3 => 67108913 | 4 => 64 | 5 => 2251799813685297 | 6 => 0 | 7 => 64 | 8 => 2361183241434822606897 | 9 => 64 | 10 => 64 | _ => 0
theorem yfok229 : fnOkX Tryz.prog ymoves ycaps 229 Tryz.f229 yord229 := fnOkX_mk Tryz.func229 (by kernel_rfl)
def yord230 : Nat → RHint := fun _ => default
def ylive230 : Nat → Nat := fun n => match n with | 0 => 3 | 1 => 387 | 2 => 899 | 3 => 419 | 4 => 65955 | 5 => 16 | 6 => 387 | 7 => 16 | _ => 0
theorem yfok230 : fnOkX Tryz.prog ymoves ycaps 230 Tryz.f230 yord230 := fnOkX_mk Tryz.func230 (by kernel_rfl)
def yord231 : Nat → RHint := fun _ => default
def ylive231 : Nat → Nat := fun n => match n with | 0 => 2 | 1 => 4 | _ => 0
theorem yfok231 : fnOkX Tryz.prog ymoves ycaps 231 Tryz.f231 yord231 := fnOkX_mk Tryz.func231 (by kernel_rfl)
def yord232 : Nat → RHint := fun _ => default
def ylive232 : Nat → Nat := fun n => match n with | 0 => 12 | 1 => 32780 | 2 => 16 | 3 => 44 | 4 => 228 | 5 => 480 | 6 => 137438953824 | 7 => 480 | 8 => 480 | 9 => 608 | 10 => 985162418487840 | 11 => 2111062325330464 | 12 => 985162418489888 | 13 => 985162418487840 | 14 => 985162418487840 | 15 => 16 | _ => 0
theorem yfok232 : fnOkX Tryz.prog ymoves ycaps 232 Tryz.f232 yord232 := fnOkX_mk Tryz.func232 (by kernel_rfl)
def yord233 : Nat → RHint := fun n => match n with | 1 => ⟨[(0, false), (1, false), (2, false), (3, false), (4, false), (5, false)], none, [], [6, 7, 8]⟩ | _ => default
def ylive233 : Nat → Nat := fun n => match n with | 0 => 14 | 1 => 16 | _ => 0
theorem yfok233 : fnOkX Tryz.prog ymoves ycaps 233 Tryz.f233 yord233 := fnOkX_mk Tryz.func233 (by kernel_rfl)
def yord234 : Nat → RHint := fun n => match n with | 2 => ⟨[(0, false), (1, false), (2, false), (3, false), (4, false), (5, false)], none, [], [6, 7]⟩ | _ => default
def ylive234 : Nat → Nat := fun n => match n with | 0 => 49 | 1 => 177 | 2 => 64 | 3 => 2097201 | 4 => 64 | 5 => 134217777 | 6 => 64 | 7 => 64 | _ => 0
theorem yfok234 : fnOkX Tryz.prog ymoves ycaps 234 Tryz.f234 yord234 := fnOkX_mk Tryz.func234 (by kernel_rfl)
def yord235 : Nat → RHint := fun n => match n with | 1 => ⟨[(0, false), (1, false), (2, false), (3, false), (4, false), (5, false), (6, false), (7, false), (8, false), (9, false), (10, false), (11, false), (12, false)], none, [], []⟩ | _ => default
def ylive235 : Nat → Nat := fun n => match n with | 0 => 14 | 1 => 65548 | 2 => 8 | 3 => 8 | _ => 0
theorem yfok235 : fnOkX Tryz.prog ymoves ycaps 235 Tryz.f235 yord235 := fnOkX_mk Tryz.func235 (by kernel_rfl)
def yord236 : Nat → RHint := fun n => match n with | 3 => ⟨[(0, false), (1, false), (2, false), (3, false), (4, false), (5, false), (6, false), (7, false), (8, false), (9, false), (10, false), (11, false), (12, false), (13, true), (14, false), (15, true)], none, [], []⟩ | _ => default
def ylive236 : Nat → Nat := fun n => match n with | 0 => 13 | 1 => 525 | 2 => 13 | 3 => 13 | _ => 0
theorem yfok236 : fnOkX Tryz.prog ymoves ycaps 236 Tryz.f236 yord236 := fnOkX_mk Tryz.func236 (by kernel_rfl)
def yord237 : Nat → RHint := fun n => match n with | 1 => ⟨[(0, false), (1, false), (2, false), (3, false), (4, false), (5, false), (6, false), (7, false)], none, [], [8]⟩ | _ => default
def ylive237 : Nat → Nat := fun n => match n with | 0 => 15 | 1 => 262158 | 2 => 6 | 3 => 768 | 4 => 768 | _ => 0
theorem yfok237 : fnOkX Tryz.prog ymoves ycaps 237 Tryz.f237 yord237 := fnOkX_mk Tryz.func237 (by kernel_rfl)
def yord238 : Nat → RHint := fun _ => default
def ylive238 : Nat → Nat := fun n => match n with | 0 => 1 | 1 => 4 | _ => 0
theorem yfok238 : fnOkX Tryz.prog ymoves ycaps 238 Tryz.f238 yord238 := fnOkX_mk Tryz.func238 (by kernel_rfl)
def yord239 : Nat → RHint := fun _ => default
def ylive239 : Nat → Nat := fun n => match n with | 0 => 1 | 1 => 8 | 2 => 4 | 3 => 4 | _ => 0
theorem yfok239 : fnOkX Tryz.prog ymoves ycaps 239 Tryz.f239 yord239 := fnOkX_mk Tryz.func239 (by kernel_rfl)
def yord240 : Nat → RHint := fun _ => default
def ylive240 : Nat → Nat := fun n => match n with | 0 => 1 | 1 => 4 | _ => 0
theorem yfok240 : fnOkX Tryz.prog ymoves ycaps 240 Tryz.f240 yord240 := fnOkX_mk Tryz.func240 (by kernel_rfl)
def yord241 : Nat → RHint := fun _ => default
def ylive241 : Nat → Nat := fun n => match n with | 0 => 1 | 1 => 4 | 2 => 4 | _ => 0
theorem yfok241 : fnOkX Tryz.prog ymoves ycaps 241 Tryz.f241 yord241 := fnOkX_mk Tryz.func241 (by kernel_rfl)
def yord242 : Nat → RHint := fun _ => default
def ylive242 : Nat → Nat := fun n => match n with | 0 => 1 | 1 => 4 | _ => 0
theorem yfok242 : fnOkX Tryz.prog ymoves ycaps 242 Tryz.f242 yord242 := fnOkX_mk Tryz.func242 (by kernel_rfl)
def yord243 : Nat → RHint := fun _ => default
def ylive243 : Nat → Nat := fun n => match n with | 0 => 1 | 1 => 9 | 2 => 25 | 3 => 262169 | 4 => 25 | 5 => 57 | 6 => 70368744177721 | 7 => 17 | 8 => 25 | 9 => 57 | 10 => 18014398509482041 | 11 => 57 | 12 => 9671406556917033397649465 | 13 => 57 | 14 => 154742504910672534362390585 | 15 => 618970019642690137449562161 | 16 => 4 | 17 => 57 | 18 => 2475880078570760549798248497 | 19 => 4 | 20 => 57 | 21 => 4 | _ => 0
theorem yfok243 : fnOkX Tryz.prog ymoves ycaps 243 Tryz.f243 yord243 := fnOkX_mk Tryz.func243 (by kernel_rfl)
def yord244 : Nat → RHint := fun _ => default
def ylive244 : Nat → Nat := fun n => match n with | 0 => 1 | 1 => 17 | 2 => 4 | 3 => 4 | _ => 0
theorem yfok244 : fnOkX Tryz.prog ymoves ycaps 244 Tryz.f244 yord244 := fnOkX_mk Tryz.func244 (by kernel_rfl)
def yord245 : Nat → RHint := fun _ => default
def ylive245 : Nat → Nat := fun n => match n with | 0 => 1 | 1 => 17 | 2 => 4 | 3 => 4 | _ => 0
theorem yfok245 : fnOkX Tryz.prog ymoves ycaps 245 Tryz.f245 yord245 := fnOkX_mk Tryz.func245 (by kernel_rfl)
noncomputable def ytab : FTr := (.node (.node (.node (.node (.node (.node (.node (.node .nil 2 Tryz.f2 yord2 ylive2 .nil) 3 Tryz.f3 yord3 ylive3 (.node .nil 4 Tryz.f4 yord4 ylive4 .nil)) 5 Tryz.f5 yord5 ylive5 (.node (.node .nil 6 Tryz.f6 yord6 ylive6 .nil) 7 Tryz.f7 yord7 ylive7 (.node .nil 8 Tryz.f8 yord8 ylive8 .nil))) 9 Tryz.f9 yord9 ylive9 (.node (.node (.node .nil 10 Tryz.f10 yord10 ylive10 .nil) 11 Tryz.f11 yord11 ylive11 (.node .nil 12 Tryz.f12 yord12 ylive12 .nil)) 13 Tryz.f13 yord13 ylive13 (.node (.node .nil 14 Tryz.f14 yord14 ylive14 .nil) 15 Tryz.f15 yord15 ylive15 (.node .nil 16 Tryz.f16 yord16 ylive16 .nil)))) 17 Tryz.f17 yord17 ylive17 (.node (.node (.node (.node .nil 18 Tryz.f18 yord18 ylive18 .nil) 19 Tryz.f19 yord19 ylive19 (.node .nil 20 Tryz.f20 yord20 ylive20 .nil)) 21 Tryz.f21 yord21 ylive21 (.node (.node .nil 22 Tryz.f22 yord22 ylive22 .nil) 23 Tryz.f23 yord23 ylive23 (.node .nil 24 Tryz.f24 yord24 ylive24 .nil))) 25 Tryz.f25 yord25 ylive25 (.node (.node (.node .nil 26 Tryz.f26 yord26 ylive26 .nil) 27 Tryz.f27 yord27 ylive27 (.node .nil 28 Tryz.f28 yord28 ylive28 .nil)) 29 Tryz.f29 yord29 ylive29 (.node (.node .nil 30 Tryz.f30 yord30 ylive30 .nil) 31 Tryz.f31 yord31 ylive31 .nil)))) 32 Tryz.f32 yord32 ylive32 (.node (.node (.node (.node (.node .nil 33 Tryz.f33 yord33 ylive33 .nil) 34 Tryz.f34 yord34 ylive34 (.node .nil 35 Tryz.f35 yord35 ylive35 .nil)) 36 Tryz.f36 yord36 ylive36 (.node (.node .nil 37 Tryz.f37 yord37 ylive37 .nil) 38 Tryz.f38 yord38 ylive38 (.node .nil 39 Tryz.f39 yord39 ylive39 .nil))) 40 Tryz.f40 yord40 ylive40 (.node (.node (.node .nil 41 Tryz.f41 yord41 ylive41 .nil) 42 Tryz.f42 yord42 ylive42 (.node .nil 43 Tryz.f43 yord43 ylive43 .nil)) 44 Tryz.f44 yord44 ylive44 (.node (.node .nil 45 Tryz.f45 yord45 ylive45 .nil) 46 Tryz.f46 yord46 ylive46 .nil))) 47 Tryz.f47 yord47 ylive47 (.node (.node (.node (.node .nil 48 Tryz.f48 yord48 ylive48 .nil) 50 Tryz.f50 yord50 ylive50 (.node .nil 51 Tryz.f51 yord51 ylive51 .nil)) 52 Tryz.f52 yord52 ylive52 (.node (.node .nil 53 Tryz.f53 yord53 ylive53 .nil) 54 Tryz.f54 yord54 ylive54 (.node .nil 55 Tryz.f55 yord55 ylive55 .nil))) 56 Tryz.f56 yord56 ylive56 (.node (.node (.node .nil 57 Tryz.f57 yord57 ylive57 .nil) 58 Tryz.f58 yord58 ylive58 (.node .nil 59 Tryz.f59 yord59 ylive59 .nil)) 60 Tryz.f60 yord60 ylive60 (.node (.node .nil 61 Tryz.f61 yord61 ylive61 .nil) 62 Tryz.f62 yord62 ylive62 .nil))))) 63 Tryz.f63 yord63 ylive63 (.node (.node (.node (.node (.node (.node .nil 64 Tryz.f64 yord64 ylive64 .nil) 65 Tryz.f65 yord65 ylive65 (.node .nil 66 Tryz.f66 yord66 ylive66 .nil)) 67 Tryz.f67 yord67 ylive67 (.node (.node .nil 68 Tryz.f68 yord68 ylive68 .nil) 69 Tryz.f69 yord69 ylive69 (.node .nil 70 Tryz.f70 yord70 ylive70 .nil))) 71 Tryz.f71 yord71 ylive71 (.node (.node (.node .nil 72 Tryz.f72 yord72 ylive72 .nil) 73 Tryz.f73 yord73 ylive73 (.node .nil 74 Tryz.f74 yord74 ylive74 .nil)) 75 Tryz.f75 yord75 ylive75 (.node (.node .nil 76 Tryz.f76 yord76 ylive76 .nil) 77 Tryz.f77 yord77 ylive77 (.node .nil 78 Tryz.f78 yord78 ylive78 .nil)))) 79 Tryz.f79 yord79 ylive79 (.node (.node (.node (.node .nil 80 Tryz.f80 yord80 ylive80 .nil) 81 Tryz.f81 yord81 ylive81 (.node .nil 82 Tryz.f82 yord82 ylive82 .nil)) 83 Tryz.f83 yord83 ylive83 (.node (.node .nil 84 Tryz.f84 yord84 ylive84 .nil) 85 Tryz.f85 yord85 ylive85 (.node .nil 86 Tryz.f86 yord86 ylive86 .nil))) 87 Tryz.f87 yord87 ylive87 (.node (.node (.node .nil 88 Tryz.f88 yord88 ylive88 .nil) 89 Tryz.f89 yord89 ylive89 (.node .nil 90 Tryz.f90 yord90 ylive90 .nil)) 91 Tryz.f91 yord91 ylive91 (.node (.node .nil 92 Tryz.f92 yord92 ylive92 .nil) 93 Tryz.f93 yord93 ylive93 .nil)))) 94 Tryz.f94 yord94 ylive94 (.node (.node (.node (.node (.node .nil 95 Tryz.f95 yord95 ylive95 .nil) 96 Tryz.f96 yord96 ylive96 (.node .nil 97 Tryz.f97 yord97 ylive97 .nil)) 98 Tryz.f98 yord98 ylive98 (.node (.node .nil 99 Tryz.f99 yord99 ylive99 .nil) 100 Tryz.f100 yord100 ylive100 (.node .nil 101 Tryz.f101 yord101 ylive101 .nil))) 102 Tryz.f102 yord102 ylive102 (.node (.node (.node .nil 103 Tryz.f103 yord103 ylive103 .nil) 104 Tryz.f104 yord104 ylive104 (.node .nil 105 Tryz.f105 yord105 ylive105 .nil)) 106 Tryz.f106 yord106 ylive106 (.node (.node .nil 107 Tryz.f107 yord107 ylive107 .nil) 108 Tryz.f108 yord108 ylive108 .nil))) 109 Tryz.f109 yord109 ylive109 (.node (.node (.node (.node .nil 110 Tryz.f110 yord110 ylive110 .nil) 111 Tryz.f111 yord111 ylive111 (.node .nil 112 Tryz.f112 yord112 ylive112 .nil)) 113 Tryz.f113 yord113 ylive113 (.node (.node .nil 114 Tryz.f114 yord114 ylive114 .nil) 115 Tryz.f115 yord115 ylive115 (.node .nil 116 Tryz.f116 yord116 ylive116 .nil))) 117 Tryz.f117 yord117 ylive117 (.node (.node (.node .nil 118 Tryz.f118 yord118 ylive118 .nil) 119 Tryz.f119 yord119 ylive119 (.node .nil 120 Tryz.f120 yord120 ylive120 .nil)) 121 Tryz.f121 yord121 ylive121 (.node (.node .nil 122 Tryz.f122 yord122 ylive122 .nil) 123 Tryz.f123 yord123 ylive123 .nil)))))) 124 Tryz.f124 yord124 ylive124 (.node (.node (.node (.node (.node (.node (.node .nil 125 Tryz.f125 yord125 ylive125 .nil) 126 Tryz.f126 yord126 ylive126 (.node .nil 127 Tryz.f127 yord127 ylive127 .nil)) 128 Tryz.f128 yord128 ylive128 (.node (.node .nil 129 Tryz.f129 yord129 ylive129 .nil) 130 Tryz.f130 yord130 ylive130 (.node .nil 131 Tryz.f131 yord131 ylive131 .nil))) 132 Tryz.f132 yord132 ylive132 (.node (.node (.node .nil 133 Tryz.f133 yord133 ylive133 .nil) 134 Tryz.f134 yord134 ylive134 (.node .nil 135 Tryz.f135 yord135 ylive135 .nil)) 136 Tryz.f136 yord136 ylive136 (.node (.node .nil 137 Tryz.f137 yord137 ylive137 .nil) 138 Tryz.f138 yord138 ylive138 (.node .nil 139 Tryz.f139 yord139 ylive139 .nil)))) 140 Tryz.f140 yord140 ylive140 (.node (.node (.node (.node .nil 141 Tryz.f141 yord141 ylive141 .nil) 142 Tryz.f142 yord142 ylive142 (.node .nil 143 Tryz.f143 yord143 ylive143 .nil)) 144 Tryz.f144 yord144 ylive144 (.node (.node .nil 145 Tryz.f145 yord145 ylive145 .nil) 146 Tryz.f146 yord146 ylive146 (.node .nil 147 Tryz.f147 yord147 ylive147 .nil))) 148 Tryz.f148 yord148 ylive148 (.node (.node (.node .nil 149 Tryz.f149 yord149 ylive149 .nil) 150 Tryz.f150 yord150 ylive150 (.node .nil 151 Tryz.f151 yord151 ylive151 .nil)) 152 Tryz.f152 yord152 ylive152 (.node (.node .nil 153 Tryz.f153 yord153 ylive153 .nil) 154 Tryz.f154 yord154 ylive154 .nil)))) 155 Tryz.f155 yord155 ylive155 (.node (.node (.node (.node (.node .nil 156 Tryz.f156 yord156 ylive156 .nil) 157 Tryz.f157 yord157 ylive157 (.node .nil 158 Tryz.f158 yord158 ylive158 .nil)) 159 Tryz.f159 yord159 ylive159 (.node (.node .nil 160 Tryz.f160 yord160 ylive160 .nil) 161 Tryz.f161 yord161 ylive161 (.node .nil 162 Tryz.f162 yord162 ylive162 .nil))) 163 Tryz.f163 yord163 ylive163 (.node (.node (.node .nil 164 Tryz.f164 yord164 ylive164 .nil) 165 Tryz.f165 yord165 ylive165 (.node .nil 166 Tryz.f166 yord166 ylive166 .nil)) 167 Tryz.f167 yord167 ylive167 (.node (.node .nil 168 Tryz.f168 yord168 ylive168 .nil) 169 Tryz.f169 yord169 ylive169 .nil))) 170 Tryz.f170 yord170 ylive170 (.node (.node (.node (.node .nil 171 Tryz.f171 yord171 ylive171 .nil) 172 Tryz.f172 yord172 ylive172 (.node .nil 173 Tryz.f173 yord173 ylive173 .nil)) 174 Tryz.f174 yord174 ylive174 (.node (.node .nil 175 Tryz.f175 yord175 ylive175 .nil) 176 Tryz.f176 yord176 ylive176 (.node .nil 177 Tryz.f177 yord177 ylive177 .nil))) 178 Tryz.f178 yord178 ylive178 (.node (.node (.node .nil 179 Tryz.f179 yord179 ylive179 .nil) 180 Tryz.f180 yord180 ylive180 (.node .nil 181 Tryz.f181 yord181 ylive181 .nil)) 182 Tryz.f182 yord182 ylive182 (.node (.node .nil 183 Tryz.f183 yord183 ylive183 .nil) 184 Tryz.f184 yord184 ylive184 .nil))))) 185 Tryz.f185 yord185 ylive185 (.node (.node (.node (.node (.node (.node .nil 186 Tryz.f186 yord186 ylive186 .nil) 187 Tryz.f187 yord187 ylive187 (.node .nil 188 Tryz.f188 yord188 ylive188 .nil)) 189 Tryz.f189 yord189 ylive189 (.node (.node .nil 191 Tryz.f191 yord191 ylive191 .nil) 192 Tryz.f192 yord192 ylive192 (.node .nil 193 Tryz.f193 yord193 ylive193 .nil))) 194 Tryz.f194 yord194 ylive194 (.node (.node (.node .nil 195 Tryz.f195 yord195 ylive195 .nil) 196 Tryz.f196 yord196 ylive196 (.node .nil 197 Tryz.f197 yord197 ylive197 .nil)) 198 Tryz.f198 yord198 ylive198 (.node (.node .nil 199 Tryz.f199 yord199 ylive199 .nil) 200 Tryz.f200 yord200 ylive200 .nil))) 201 Tryz.f201 yord201 ylive201 (.node (.node (.node (.node .nil 202 Tryz.f202 yord202 ylive202 .nil) 203 Tryz.f203 yord203 ylive203 (.node .nil 204 Tryz.f204 yord204 ylive204 .nil)) 205 Tryz.f205 yord205 ylive205 (.node (.node .nil 206 Tryz.f206 yord206 ylive206 .nil) 207 Tryz.f207 yord207 ylive207 (.node .nil 208 Tryz.f208 yord208 ylive208 .nil))) 209 Tryz.f209 yord209 ylive209 (.node (.node (.node .nil 210 Tryz.f210 yord210 ylive210 .nil) 211 Tryz.f211 yord211 ylive211 (.node .nil 212 Tryz.f212 yord212 ylive212 .nil)) 213 Tryz.f213 yord213 ylive213 (.node (.node .nil 214 Tryz.f214 yord214 ylive214 .nil) 215 Tryz.f215 yord215 ylive215 .nil)))) 216 Tryz.f216 yord216 ylive216 (.node (.node (.node (.node (.node .nil 217 Tryz.f217 yord217 ylive217 .nil) 218 Tryz.f218 yord218 ylive218 (.node .nil 219 Tryz.f219 yord219 ylive219 .nil)) 220 Tryz.f220 yord220 ylive220 (.node (.node .nil 221 Tryz.f221 yord221 ylive221 .nil) 222 Tryz.f222 yord222 ylive222 (.node .nil 223 Tryz.f223 yord223 ylive223 .nil))) 224 Tryz.f224 yord224 ylive224 (.node (.node (.node .nil 225 Tryz.f225 yord225 ylive225 .nil) 226 Tryz.f226 yord226 ylive226 (.node .nil 227 Tryz.f227 yord227 ylive227 .nil)) 228 Tryz.f228 yord228 ylive228 (.node (.node .nil 229 Tryz.f229 yord229 ylive229 .nil) 230 Tryz.f230 yord230 ylive230 .nil))) 231 Tryz.f231 yord231 ylive231 (.node (.node (.node (.node .nil 232 Tryz.f232 yord232 ylive232 .nil) 233 Tryz.f233 yord233 ylive233 (.node .nil 234 Tryz.f234 yord234 ylive234 .nil)) 235 Tryz.f235 yord235 ylive235 (.node (.node .nil 236 Tryz.f236 yord236 ylive236 .nil) 237 Tryz.f237 yord237 ylive237 (.node .nil 238 Tryz.f238 yord238 ylive238 .nil))) 239 Tryz.f239 yord239 ylive239 (.node (.node (.node .nil 240 Tryz.f240 yord240 ylive240 .nil) 241 Tryz.f241 yord241 ylive241 (.node .nil 242 Tryz.f242 yord242 ylive242 .nil)) 243 Tryz.f243 yord243 ylive243 (.node (.node .nil 244 Tryz.f244 yord244 ylive244 .nil) 245 Tryz.f245 yord245 ylive245 .nil)))))))
theorem ytab_ok : FOk Tryz.prog ymoves ycaps ytab.find := FTr.ok (FTr.all_node (FTr.all_node (FTr.all_node (FTr.all_node (FTr.all_node (FTr.all_node (FTr.all_node (FTr.all_node FTr.all_nil yfok2 FTr.all_nil) yfok3 (FTr.all_node FTr.all_nil yfok4 FTr.all_nil)) yfok5 (FTr.all_node (FTr.all_node FTr.all_nil yfok6 FTr.all_nil) yfok7 (FTr.all_node FTr.all_nil yfok8 FTr.all_nil))) yfok9 (FTr.all_node (FTr.all_node (FTr.all_node FTr.all_nil yfok10 FTr.all_nil) yfok11 (FTr.all_node FTr.all_nil yfok12 FTr.all_nil)) yfok13 (FTr.all_node (FTr.all_node FTr.all_nil yfok14 FTr.all_nil) yfok15 (FTr.all_node FTr.all_nil yfok16 FTr.all_nil)))) yfok17 (FTr.all_node (FTr.all_node (FTr.all_node (FTr.all_node FTr.all_nil yfok18 FTr.all_nil) yfok19 (FTr.all_node FTr.all_nil yfok20 FTr.all_nil)) yfok21 (FTr.all_node (FTr.all_node FTr.all_nil yfok22 FTr.all_nil) yfok23 (FTr.all_node FTr.all_nil yfok24 FTr.all_nil))) yfok25 (FTr.all_node (FTr.all_node (FTr.all_node FTr.all_nil yfok26 FTr.all_nil) yfok27 (FTr.all_node FTr.all_nil yfok28 FTr.all_nil)) yfok29 (FTr.all_node (FTr.all_node FTr.all_nil yfok30 FTr.all_nil) yfok31 FTr.all_nil)))) yfok32 (FTr.all_node (FTr.all_node (FTr.all_node (FTr.all_node (FTr.all_node FTr.all_nil yfok33 FTr.all_nil) yfok34 (FTr.all_node FTr.all_nil yfok35 FTr.all_nil)) yfok36 (FTr.all_node (FTr.all_node FTr.all_nil yfok37 FTr.all_nil) yfok38 (FTr.all_node FTr.all_nil yfok39 FTr.all_nil))) yfok40 (FTr.all_node (FTr.all_node (FTr.all_node FTr.all_nil yfok41 FTr.all_nil) yfok42 (FTr.all_node FTr.all_nil yfok43 FTr.all_nil)) yfok44 (FTr.all_node (FTr.all_node FTr.all_nil yfok45 FTr.all_nil) yfok46 FTr.all_nil))) yfok47 (FTr.all_node (FTr.all_node (FTr.all_node (FTr.all_node FTr.all_nil yfok48 FTr.all_nil) yfok50 (FTr.all_node FTr.all_nil yfok51 FTr.all_nil)) yfok52 (FTr.all_node (FTr.all_node FTr.all_nil yfok53 FTr.all_nil) yfok54 (FTr.all_node FTr.all_nil yfok55 FTr.all_nil))) yfok56 (FTr.all_node (FTr.all_node (FTr.all_node FTr.all_nil yfok57 FTr.all_nil) yfok58 (FTr.all_node FTr.all_nil yfok59 FTr.all_nil)) yfok60 (FTr.all_node (FTr.all_node FTr.all_nil yfok61 FTr.all_nil) yfok62 FTr.all_nil))))) yfok63 (FTr.all_node (FTr.all_node (FTr.all_node (FTr.all_node (FTr.all_node (FTr.all_node FTr.all_nil yfok64 FTr.all_nil) yfok65 (FTr.all_node FTr.all_nil yfok66 FTr.all_nil)) yfok67 (FTr.all_node (FTr.all_node FTr.all_nil yfok68 FTr.all_nil) yfok69 (FTr.all_node FTr.all_nil yfok70 FTr.all_nil))) yfok71 (FTr.all_node (FTr.all_node (FTr.all_node FTr.all_nil yfok72 FTr.all_nil) yfok73 (FTr.all_node FTr.all_nil yfok74 FTr.all_nil)) yfok75 (FTr.all_node (FTr.all_node FTr.all_nil yfok76 FTr.all_nil) yfok77 (FTr.all_node FTr.all_nil yfok78 FTr.all_nil)))) yfok79 (FTr.all_node (FTr.all_node (FTr.all_node (FTr.all_node FTr.all_nil yfok80 FTr.all_nil) yfok81 (FTr.all_node FTr.all_nil yfok82 FTr.all_nil)) yfok83 (FTr.all_node (FTr.all_node FTr.all_nil yfok84 FTr.all_nil) yfok85 (FTr.all_node FTr.all_nil yfok86 FTr.all_nil))) yfok87 (FTr.all_node (FTr.all_node (FTr.all_node FTr.all_nil yfok88 FTr.all_nil) yfok89 (FTr.all_node FTr.all_nil yfok90 FTr.all_nil)) yfok91 (FTr.all_node (FTr.all_node FTr.all_nil yfok92 FTr.all_nil) yfok93 FTr.all_nil)))) yfok94 (FTr.all_node (FTr.all_node (FTr.all_node (FTr.all_node (FTr.all_node FTr.all_nil yfok95 FTr.all_nil) yfok96 (FTr.all_node FTr.all_nil yfok97 FTr.all_nil)) yfok98 (FTr.all_node (FTr.all_node FTr.all_nil yfok99 FTr.all_nil) yfok100 (FTr.all_node FTr.all_nil yfok101 FTr.all_nil))) yfok102 (FTr.all_node (FTr.all_node (FTr.all_node FTr.all_nil yfok103 FTr.all_nil) yfok104 (FTr.all_node FTr.all_nil yfok105 FTr.all_nil)) yfok106 (FTr.all_node (FTr.all_node FTr.all_nil yfok107 FTr.all_nil) yfok108 FTr.all_nil))) yfok109 (FTr.all_node (FTr.all_node (FTr.all_node (FTr.all_node FTr.all_nil yfok110 FTr.all_nil) yfok111 (FTr.all_node FTr.all_nil yfok112 FTr.all_nil)) yfok113 (FTr.all_node (FTr.all_node FTr.all_nil yfok114 FTr.all_nil) yfok115 (FTr.all_node FTr.all_nil yfok116 FTr.all_nil))) yfok117 (FTr.all_node (FTr.all_node (FTr.all_node FTr.all_nil yfok118 FTr.all_nil) yfok119 (FTr.all_node FTr.all_nil yfok120 FTr.all_nil)) yfok121 (FTr.all_node (FTr.all_node FTr.all_nil yfok122 FTr.all_nil) yfok123 FTr.all_nil)))))) yfok124 (FTr.all_node (FTr.all_node (FTr.all_node (FTr.all_node (FTr.all_node (FTr.all_node (FTr.all_node FTr.all_nil yfok125 FTr.all_nil) yfok126 (FTr.all_node FTr.all_nil yfok127 FTr.all_nil)) yfok128 (FTr.all_node (FTr.all_node FTr.all_nil yfok129 FTr.all_nil) yfok130 (FTr.all_node FTr.all_nil yfok131 FTr.all_nil))) yfok132 (FTr.all_node (FTr.all_node (FTr.all_node FTr.all_nil yfok133 FTr.all_nil) yfok134 (FTr.all_node FTr.all_nil yfok135 FTr.all_nil)) yfok136 (FTr.all_node (FTr.all_node FTr.all_nil yfok137 FTr.all_nil) yfok138 (FTr.all_node FTr.all_nil yfok139 FTr.all_nil)))) yfok140 (FTr.all_node (FTr.all_node (FTr.all_node (FTr.all_node FTr.all_nil yfok141 FTr.all_nil) yfok142 (FTr.all_node FTr.all_nil yfok143 FTr.all_nil)) yfok144 (FTr.all_node (FTr.all_node FTr.all_nil yfok145 FTr.all_nil) yfok146 (FTr.all_node FTr.all_nil yfok147 FTr.all_nil))) yfok148 (FTr.all_node (FTr.all_node (FTr.all_node FTr.all_nil yfok149 FTr.all_nil) yfok150 (FTr.all_node FTr.all_nil yfok151 FTr.all_nil)) yfok152 (FTr.all_node (FTr.all_node FTr.all_nil yfok153 FTr.all_nil) yfok154 FTr.all_nil)))) yfok155 (FTr.all_node (FTr.all_node (FTr.all_node (FTr.all_node (FTr.all_node FTr.all_nil yfok156 FTr.all_nil) yfok157 (FTr.all_node FTr.all_nil yfok158 FTr.all_nil)) yfok159 (FTr.all_node (FTr.all_node FTr.all_nil yfok160 FTr.all_nil) yfok161 (FTr.all_node FTr.all_nil yfok162 FTr.all_nil))) yfok163 (FTr.all_node (FTr.all_node (FTr.all_node FTr.all_nil yfok164 FTr.all_nil) yfok165 (FTr.all_node FTr.all_nil yfok166 FTr.all_nil)) yfok167 (FTr.all_node (FTr.all_node FTr.all_nil yfok168 FTr.all_nil) yfok169 FTr.all_nil))) yfok170 (FTr.all_node (FTr.all_node (FTr.all_node (FTr.all_node FTr.all_nil yfok171 FTr.all_nil) yfok172 (FTr.all_node FTr.all_nil yfok173 FTr.all_nil)) yfok174 (FTr.all_node (FTr.all_node FTr.all_nil yfok175 FTr.all_nil) yfok176 (FTr.all_node FTr.all_nil yfok177 FTr.all_nil))) yfok178 (FTr.all_node (FTr.all_node (FTr.all_node FTr.all_nil yfok179 FTr.all_nil) yfok180 (FTr.all_node FTr.all_nil yfok181 FTr.all_nil)) yfok182 (FTr.all_node (FTr.all_node FTr.all_nil yfok183 FTr.all_nil) yfok184 FTr.all_nil))))) yfok185 (FTr.all_node (FTr.all_node (FTr.all_node (FTr.all_node (FTr.all_node (FTr.all_node FTr.all_nil yfok186 FTr.all_nil) yfok187 (FTr.all_node FTr.all_nil yfok188 FTr.all_nil)) yfok189 (FTr.all_node (FTr.all_node FTr.all_nil yfok191 FTr.all_nil) yfok192 (FTr.all_node FTr.all_nil yfok193 FTr.all_nil))) yfok194 (FTr.all_node (FTr.all_node (FTr.all_node FTr.all_nil yfok195 FTr.all_nil) yfok196 (FTr.all_node FTr.all_nil yfok197 FTr.all_nil)) yfok198 (FTr.all_node (FTr.all_node FTr.all_nil yfok199 FTr.all_nil) yfok200 FTr.all_nil))) yfok201 (FTr.all_node (FTr.all_node (FTr.all_node (FTr.all_node FTr.all_nil yfok202 FTr.all_nil) yfok203 (FTr.all_node FTr.all_nil yfok204 FTr.all_nil)) yfok205 (FTr.all_node (FTr.all_node FTr.all_nil yfok206 FTr.all_nil) yfok207 (FTr.all_node FTr.all_nil yfok208 FTr.all_nil))) yfok209 (FTr.all_node (FTr.all_node (FTr.all_node FTr.all_nil yfok210 FTr.all_nil) yfok211 (FTr.all_node FTr.all_nil yfok212 FTr.all_nil)) yfok213 (FTr.all_node (FTr.all_node FTr.all_nil yfok214 FTr.all_nil) yfok215 FTr.all_nil)))) yfok216 (FTr.all_node (FTr.all_node (FTr.all_node (FTr.all_node (FTr.all_node FTr.all_nil yfok217 FTr.all_nil) yfok218 (FTr.all_node FTr.all_nil yfok219 FTr.all_nil)) yfok220 (FTr.all_node (FTr.all_node FTr.all_nil yfok221 FTr.all_nil) yfok222 (FTr.all_node FTr.all_nil yfok223 FTr.all_nil))) yfok224 (FTr.all_node (FTr.all_node (FTr.all_node FTr.all_nil yfok225 FTr.all_nil) yfok226 (FTr.all_node FTr.all_nil yfok227 FTr.all_nil)) yfok228 (FTr.all_node (FTr.all_node FTr.all_nil yfok229 FTr.all_nil) yfok230 FTr.all_nil))) yfok231 (FTr.all_node (FTr.all_node (FTr.all_node (FTr.all_node FTr.all_nil yfok232 FTr.all_nil) yfok233 (FTr.all_node FTr.all_nil yfok234 FTr.all_nil)) yfok235 (FTr.all_node (FTr.all_node FTr.all_nil yfok236 FTr.all_nil) yfok237 (FTr.all_node FTr.all_nil yfok238 FTr.all_nil))) yfok239 (FTr.all_node (FTr.all_node (FTr.all_node FTr.all_nil yfok240 FTr.all_nil) yfok241 (FTr.all_node FTr.all_nil yfok242 FTr.all_nil)) yfok243 (FTr.all_node (FTr.all_node FTr.all_nil yfok244 FTr.all_nil) yfok245 FTr.all_nil)))))))
end Go.Proofs.YteanmfacikjjhaaGreatDoor
