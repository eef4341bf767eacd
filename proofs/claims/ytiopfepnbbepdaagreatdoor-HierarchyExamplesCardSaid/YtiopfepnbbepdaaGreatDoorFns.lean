/- The table of functions, for code that is run to its end. Made by genx2.py. -/
import Derived.Test.YtiopfepnbbepdaaGreatDoorEnv
import Derived.Test.YtiopfepnbbepdaaGreatDoorTpFrun2
namespace Go.Proofs.YtiopfepnbbepdaaGreatDoor
open Go.Tp
set_option maxRecDepth 100000

def xmoves : FuncId → Bool := fun f => match f with | 111 => true | 122 => true | _ => false
def xcaps : FuncId → Bool := fun f => match f with | 1000013 => true | 2000016 => true | 2000030 => true | _ => false
def ord2 : Nat → RHint := fun _ => default
def live2 : Nat → Nat := fun n => match n with | 0 => 0 | _ => 0
theorem fok2 : fnOkX Tryz.prog xmoves xcaps 2 Tryz.f2 ord2 := fnOkX_mk Tryz.func2 (by kernel_rfl)
def ord3 : Nat → RHint := fun _ => default
def live3 : Nat → Nat := fun n => match n with | 0 => 0 | 1 => 2 | 2 => 536870914 | 3 => 1 | 4 => 6 | 5 => 14 | 6 => 30 | 7 => 62 | 8 => 126 | 9 => 254 | 10 => 510 | 11 => 1 | _ => 0
theorem fok3 : fnOkX Tryz.prog xmoves xcaps 3 Tryz.f3 ord3 := fnOkX_mk Tryz.func3 (by kernel_rfl)
def ord4 : Nat → RHint := fun _ => default
def live4 : Nat → Nat := fun n => match n with | 0 => 0 | 1 => 2 | 2 => 898 | 3 => 1922 | 4 => 906 | 5 => 898 | 6 => 898 | 7 => 1 | _ => 0
theorem fok4 : fnOkX Tryz.prog xmoves xcaps 4 Tryz.f4 ord4 := fnOkX_mk Tryz.func4 (by kernel_rfl)
def ord5 : Nat → RHint := fun n => match n with | 5 => ⟨[(0, false), (1, false), (2, false), (3, true), (4, false), (5, true)], none, [], [6, 7, 8, 9, 10, 11, 12, 13, 14]⟩ | _ => default
def live5 : Nat → Nat := fun n => match n with | 0 => 0 | 1 => 2 | 2 => 2097154 | 3 => 1 | 4 => 14 | 5 => 1 | _ => 0
theorem fok5 : fnOkX Tryz.prog xmoves xcaps 5 Tryz.f5 ord5 := fnOkX_mk Tryz.func5 (by kernel_rfl)
def ord6 : Nat → RHint := fun _ => default
def live6 : Nat → Nat := fun n => match n with | 0 => 1 | 1 => 9 | 2 => 3592 | 3 => 7688 | 4 => 3624 | 5 => 3592 | 6 => 3592 | 7 => 4 | _ => 0
theorem fok6 : fnOkX Tryz.prog xmoves xcaps 6 Tryz.f6 ord6 := fnOkX_mk Tryz.func6 (by kernel_rfl)
def ord7 : Nat → RHint := fun n => match n with | 6 => ⟨[(0, false), (1, false), (2, false), (3, false), (4, false), (5, false), (6, false), (7, false)], none, [], [8, 9]⟩ | _ => default
def live7 : Nat → Nat := fun n => match n with | 0 => 3 | 1 => 1027 | 2 => 16 | 3 => 35 | 4 => 16419 | 5 => 35 | 6 => 67108899 | 7 => 16 | 8 => 16 | _ => 0
theorem fok7 : fnOkX Tryz.prog xmoves xcaps 7 Tryz.f7 ord7 := fnOkX_mk Tryz.func7 (by kernel_rfl)
def ord8 : Nat → RHint := fun _ => default
def live8 : Nat → Nat := fun n => match n with | 0 => 0 | 1 => 2 | 2 => 450 | 3 => 962 | 4 => 458 | 5 => 450 | 6 => 450 | 7 => 1 | _ => 0
theorem fok8 : fnOkX Tryz.prog xmoves xcaps 8 Tryz.f8 ord8 := fnOkX_mk Tryz.func8 (by kernel_rfl)
def ord9 : Nat → RHint := fun _ => default
def live9 : Nat → Nat := fun n => match n with | 0 => 1 | 1 => 4 | _ => 0
theorem fok9 : fnOkX Tryz.prog xmoves xcaps 9 Tryz.f9 ord9 := fnOkX_mk Tryz.func9 (by kernel_rfl)
def ord10 : Nat → RHint := fun n => match n with | 14 => ⟨[(0, false), (1, false), (2, true)], none, [], [3]⟩ | _ => default
def live10 : Nat → Nat := fun n => match n with | 0 => 12 | 1 => 108 | 2 => 65644 | 3 => 16 | 4 => 1048684 | 5 => 16 | 6 => 1073741900 | 7 => 16 | 8 => 137438953484 | 9 => 16 | 10 => 549755813900 | 11 => 16 | 12 => 70368744177676 | 13 => 16 | 14 => 12 | 15 => 576460752303423500 | 16 => 0 | 17 => 16 | 18 => 140 | 19 => 151115727451828646838276 | 20 => 0 | 21 => 16 | 22 => 16 | _ => 0
theorem fok10 : fnOkX Tryz.prog xmoves xcaps 10 Tryz.f10 ord10 := fnOkX_mk Tryz.func10 (by kernel_rfl)
def ord11 : Nat → RHint := fun _ => default
def live11 : Nat → Nat := fun n => match n with | 0 => 19 | 1 => 16 | _ => 0
theorem fok11 : fnOkX Tryz.prog xmoves xcaps 11 Tryz.f11 ord11 := fnOkX_mk Tryz.func11 (by kernel_rfl)
def ord12 : Nat → RHint := fun _ => default
def live12 : Nat → Nat := fun n => match n with | 0 => 3 | 1 => 35 | 2 => 33 | 3 => 97 | 4 => 7340097 | 5 => 15728705 | 6 => 7340353 | 7 => 7340865 | 8 => 7340609 | 9 => 7340609 | 10 => 17592193385025 | 11 => 7340609 | 12 => 985162425827393 | 13 => 2111062332670017 | 14 => 985162425831489 | 15 => 985162425831489 | 16 => 985162425827393 | 17 => 985162425827393 | 18 => 7340097 | 19 => 7340097 | 20 => 16 | _ => 0
theorem fok12 : fnOkX Tryz.prog xmoves xcaps 12 Tryz.f12 ord12 := fnOkX_mk Tryz.func12 (by kernel_rfl)
def ord13 : Nat → RHint := fun n => match n with | 1 => ⟨[(0, false), (1, false), (2, false), (3, false), (4, false), (5, false), (6, false), (7, false), (8, false), (9, false), (10, false)], none, [], [11]⟩ | 2 => ⟨[(0, false), (1, false), (2, false), (3, false), (4, false), (5, false), (6, false)], none, [4], [7, 8, 9, 10]⟩ | _ => default
def live13 : Nat → Nat := fun n => match n with | 0 => 9 | 1 => 9 | 2 => 0 | _ => 0
theorem fok13 : fnOkX Tryz.prog xmoves xcaps 13 Tryz.f13 ord13 := fnOkX_mk Tryz.func13 (by kernel_rfl)
def ord14 : Nat → RHint := fun _ => default
def live14 : Nat → Nat := fun n => match n with | 0 => 5 | 1 => 4 | _ => 0
theorem fok14 : fnOkX Tryz.prog xmoves xcaps 14 Tryz.f14 ord14 := fnOkX_mk Tryz.func14 (by kernel_rfl)
def ord15 : Nat → RHint := fun _ => default
def live15 : Nat → Nat := fun n => match n with | 0 => 85 | 1 => 4181 | 2 => 65621 | 3 => 192 | 4 => 4194389 | 5 => 341 | 6 => 85 | 7 => 192 | _ => 0
theorem fok15 : fnOkX Tryz.prog xmoves xcaps 15 Tryz.f15 ord15 := fnOkX_mk Tryz.func15 (by kernel_rfl)
def ord16 : Nat → RHint := fun _ => default
def live16 : Nat → Nat := fun n => match n with | 0 => 12 | 1 => 16 | _ => 0
theorem fok16 : fnOkX Tryz.prog xmoves xcaps 16 Tryz.f16 ord16 := fnOkX_mk Tryz.func16 (by kernel_rfl)
def ord17 : Nat → RHint := fun n => match n with | 7 => ⟨[(0, false), (1, false), (2, false), (3, false), (4, false), (5, false), (6, true), (7, false), (8, false), (9, true), (10, false)], none, [1], [11]⟩ | _ => default
def live17 : Nat → Nat := fun n => match n with | 0 => 6 | 1 => 14 | 2 => 14 | 3 => 14 | 4 => 57356 | 5 => 122892 | 6 => 57388 | 7 => 57356 | 8 => 57356 | 9 => 4 | _ => 0
theorem fok17 : fnOkX Tryz.prog xmoves xcaps 17 Tryz.f17 ord17 := fnOkX_mk Tryz.func17 (by kernel_rfl)
def ord18 : Nat → RHint := fun n => match n with | 6 => ⟨[(0, false), (1, false), (2, false), (3, false), (4, false), (5, false), (6, false), (7, false), (8, false), (9, false), (10, false), (11, false), (12, false), (13, false), (14, false), (15, false), (16, false), (17, false), (18, false), (19, false), (20, false), (21, false), (22, false), (23, false), (24, false), (25, false)], none, [], [26, 27, 28]⟩ | _ => default
def live18 : Nat → Nat := fun n => match n with | 0 => 12 | 1 => 2199023255564 | 2 => 16 | 3 => 44 | 4 => 70368744177708 | 5 => 44 | 6 => 151115727451828646838316 | 7 => 16 | 8 => 16 | _ => 0
theorem fok18 : fnOkX Tryz.prog xmoves xcaps 18 Tryz.f18 ord18 := fnOkX_mk Tryz.func18 (by kernel_rfl)
def ord19 : Nat → RHint := fun _ => default
def live19 : Nat → Nat := fun n => match n with | 0 => 19 | 1 => 209 | 2 => 262225 | 3 => 48 | 4 => 48 | _ => 0
theorem fok19 : fnOkX Tryz.prog xmoves xcaps 19 Tryz.f19 ord19 := fnOkX_mk Tryz.func19 (by kernel_rfl)
def ord20 : Nat → RHint := fun _ => default
def live20 : Nat → Nat := fun n => match n with | 0 => 2 | 1 => 2147483650 | 2 => 4 | 3 => 562949953421314 | 4 => 4 | 5 => 10 | 6 => 31525197391593482 | 7 => 67553994410557450 | 8 => 31525197391593514 | 9 => 37778963388154553303082 | 10 => 4 | 11 => 31525197391593482 | 12 => 31525197391593482 | 13 => 4 | _ => 0
theorem fok20 : fnOkX Tryz.prog xmoves xcaps 20 Tryz.f20 ord20 := fnOkX_mk Tryz.func20 (by kernel_rfl)
def ord21 : Nat → RHint := fun _ => default
def live21 : Nat → Nat := fun n => match n with | 0 => 12 | 1 => 44 | 2 => 16 | _ => 0
theorem fok21 : fnOkX Tryz.prog xmoves xcaps 21 Tryz.f21 ord21 := fnOkX_mk Tryz.func21 (by kernel_rfl)
def ord22 : Nat → RHint := fun _ => default
def live22 : Nat → Nat := fun n => match n with | 0 => 12 | 1 => 8204 | 2 => 16 | 3 => 16 | _ => 0
theorem fok22 : fnOkX Tryz.prog xmoves xcaps 22 Tryz.f22 ord22 := fnOkX_mk Tryz.func22 (by kernel_rfl)
def ord23 : Nat → RHint := fun _ => default
def live23 : Nat → Nat := fun n => match n with | 0 => 3 | 1 => 16 | _ => 0
theorem fok23 : fnOkX Tryz.prog xmoves xcaps 23 Tryz.f23 ord23 := fnOkX_mk Tryz.func23 (by kernel_rfl)
def ord24 : Nat → RHint := fun _ => default
def live24 : Nat → Nat := fun n => match n with | 0 => 6 | 1 => 8 | _ => 0
theorem fok24 : fnOkX Tryz.prog xmoves xcaps 24 Tryz.f24 ord24 := fnOkX_mk Tryz.func24 (by kernel_rfl)
def ord25 : Nat → RHint := fun n => match n with | 1 => ⟨[(0, false), (1, false), (2, false), (3, false), (4, false), (5, false), (6, false), (7, false), (8, false), (9, false), (10, false), (11, false)], none, [], [12]⟩ | _ => default
def live25 : Nat → Nat := fun n => match n with | 0 => 5 | 1 => 5 | 2 => 0 | _ => 0
theorem fok25 : fnOkX Tryz.prog xmoves xcaps 25 Tryz.f25 ord25 := fnOkX_mk Tryz.func25 (by kernel_rfl)
def ord26 : Nat → RHint := fun _ => default
def live26 : Nat → Nat := fun n => match n with | 0 => 199 | 1 => 33554503 | 2 => 69 | 3 => 325 | 4 => 30064771333 | 5 => 64424509701 | 6 => 30064772357 | 7 => 30064771333 | 8 => 30064771333 | 9 => 123145302310917 | 10 => 263882790666245 | 11 => 123145302315013 | 12 => 123145302310917 | 13 => 123145302310917 | _ => 0
theorem fok26 : fnOkX Tryz.prog xmoves xcaps 26 Tryz.f26 ord26 := fnOkX_mk Tryz.func26 (by kernel_rfl)
def ord27 : Nat → RHint := fun _ => default
def live27 : Nat → Nat := fun n => match n with | 0 => 1 | 1 => 8 | 2 => 8 | 3 => 4 | _ => 0
theorem fok27 : fnOkX Tryz.prog xmoves xcaps 27 Tryz.f27 ord27 := fnOkX_mk Tryz.func27 (by kernel_rfl)
def ord28 : Nat → RHint := fun _ => default
def live28 : Nat → Nat := fun n => match n with | 0 => 2 | 1 => 4 | _ => 0
theorem fok28 : fnOkX Tryz.prog xmoves xcaps 28 Tryz.f28 ord28 := fnOkX_mk Tryz.func28 (by kernel_rfl)
def ord29 : Nat → RHint := fun _ => default
def live29 : Nat → Nat := fun n => match n with | 0 => 3 | 1 => 3 | 2 => 2 | 3 => 48 | _ => 0
theorem fok29 : fnOkX Tryz.prog xmoves xcaps 29 Tryz.f29 ord29 := fnOkX_mk Tryz.func29 (by kernel_rfl)
def ord30 : Nat → RHint := fun _ => default
def live30 : Nat → Nat := fun n => match n with | 0 => 1 | 1 => 4 | _ => 0
theorem fok30 : fnOkX Tryz.prog xmoves xcaps 30 Tryz.f30 ord30 := fnOkX_mk Tryz.func30 (by kernel_rfl)
def ord31 : Nat → RHint := fun _ => default
def live31 : Nat → Nat := fun n => match n with | 0 => 9 | 1 => 41 | 2 => 521 | 3 => 0 | 4 => 0 | 5 => 1048617 | 6 => 0 | 7 => 16777257 | 8 => 0 | 9 => 268435497 | 10 => 0 | 11 => 68719476777 | 12 => 0 | 13 => 4398046511145 | 14 => 0 | 15 => 281474976710665 | 16 => 0 | _ => 0
theorem fok31 : fnOkX Tryz.prog xmoves xcaps 31 Tryz.f31 ord31 := fnOkX_mk Tryz.func31 (by kernel_rfl)
def ord32 : Nat → RHint := fun _ => default
def live32 : Nat → Nat := fun n => match n with | 0 => 3 | 1 => 3 | 2 => 0 | 3 => 16 | _ => 0
theorem fok32 : fnOkX Tryz.prog xmoves xcaps 32 Tryz.f32 ord32 := fnOkX_mk Tryz.func32 (by kernel_rfl)
def ord33 : Nat → RHint := fun n => match n with | 1 => ⟨[], some 999999, [], []⟩ | _ => default
def live33 : Nat → Nat := fun n => match n with | 0 => 1 | 1 => 4 | _ => 0
theorem fok33 : fnOkX Tryz.prog xmoves xcaps 33 Tryz.f33 ord33 := fnOkX_mk Tryz.func33 (by kernel_rfl)
def ord34 : Nat → RHint := fun _ => default
def live34 : Nat → Nat := fun n => match n with | 0 => 6 | 1 => 4 | _ => 0
theorem fok34 : fnOkX Tryz.prog xmoves xcaps 34 Tryz.f34 ord34 := fnOkX_mk Tryz.func34 (by kernel_rfl)
def ord35 : Nat → RHint := fun _ => default
def live35 : Nat → Nat := fun n => match n with | 0 => 9 | 1 => 104 | 2 => 16 | _ => 0
theorem fok35 : fnOkX Tryz.prog xmoves xcaps 35 Tryz.f35 ord35 := fnOkX_mk Tryz.func35 (by kernel_rfl)
def ord36 : Nat → RHint := fun _ => default
def live36 : Nat → Nat := fun n => match n with | 0 => 28 | 1 => 16 | _ => 0
theorem fok36 : fnOkX Tryz.prog xmoves xcaps 36 Tryz.f36 ord36 := fnOkX_mk Tryz.func36 (by kernel_rfl)
def ord37 : Nat → RHint := fun n => match n with | 12 => ⟨[(0, false), (1, false), (2, false), (3, false), (4, false), (5, false), (6, false), (7, false), (8, false), (9, false)], none, [], [10, 11]⟩ | _ => default
def live37 : Nat → Nat := fun n => match n with | 0 => 12 | 1 => 140 | 2 => 16 | 3 => 524300 | 4 => 16 | 5 => 2147483660 | 6 => 16 | 7 => 8796093022220 | 8 => 16 | 9 => 44 | 10 => 9223372036854775852 | 11 => 44 | 12 => 108 | 13 => 302231454903657293676652 | 14 => 16 | 15 => 16 | _ => 0
theorem fok37 : fnOkX Tryz.prog xmoves xcaps 37 Tryz.f37 ord37 := fnOkX_mk Tryz.func37 (by kernel_rfl)
def ord38 : Nat → RHint := fun _ => default
def live38 : Nat → Nat := fun n => match n with | 0 => 1 | 1 => 4 | _ => 0
theorem fok38 : fnOkX Tryz.prog xmoves xcaps 38 Tryz.f38 ord38 := fnOkX_mk Tryz.func38 (by kernel_rfl)
def ord39 : Nat → RHint := fun _ => default
def live39 : Nat → Nat := fun n => match n with | 0 => 3 | 1 => 16 | _ => 0
theorem fok39 : fnOkX Tryz.prog xmoves xcaps 39 Tryz.f39 ord39 := fnOkX_mk Tryz.func39 (by kernel_rfl)
def ord40 : Nat → RHint := fun _ => default
def live40 : Nat → Nat := fun n => match n with | 0 => 12 | 1 => 16 | _ => 0
theorem fok40 : fnOkX Tryz.prog xmoves xcaps 40 Tryz.f40 ord40 := fnOkX_mk Tryz.func40 (by kernel_rfl)
def ord41 : Nat → RHint := fun _ => default
def live41 : Nat → Nat := fun n => match n with | 0 => 12 | 1 => 16 | _ => 0
theorem fok41 : fnOkX Tryz.prog xmoves xcaps 41 Tryz.f41 ord41 := fnOkX_mk Tryz.func41 (by kernel_rfl)
def ord42 : Nat → RHint := fun _ => default
def live42 : Nat → Nat := fun n => match n with | 0 => 12 | 1 => 16 | _ => 0
theorem fok42 : fnOkX Tryz.prog xmoves xcaps 42 Tryz.f42 ord42 := fnOkX_mk Tryz.func42 (by kernel_rfl)
def ord43 : Nat → RHint := fun _ => default
def live43 : Nat → Nat := fun n => match n with | 0 => 7 | 1 => 16391 | 2 => 64 | 3 => 229382 | 4 => 491526 | 5 => 229766 | 6 => 230150 | 7 => 1073971206 | 8 => 64 | 9 => 229382 | 10 => 64 | _ => 0
theorem fok43 : fnOkX Tryz.prog xmoves xcaps 43 Tryz.f43 ord43 := fnOkX_mk Tryz.func43 (by kernel_rfl)
def ord44 : Nat → RHint := fun _ => default
def live44 : Nat → Nat := fun n => match n with | 0 => 3 | 1 => 16 | _ => 0
theorem fok44 : fnOkX Tryz.prog xmoves xcaps 44 Tryz.f44 ord44 := fnOkX_mk Tryz.func44 (by kernel_rfl)
def ord45 : Nat → RHint := fun _ => default
def live45 : Nat → Nat := fun n => match n with | 0 => 6 | 1 => 8 | _ => 0
theorem fok45 : fnOkX Tryz.prog xmoves xcaps 45 Tryz.f45 ord45 := fnOkX_mk Tryz.func45 (by kernel_rfl)
def ord46 : Nat → RHint := fun _ => default
def live46 : Nat → Nat := fun n => match n with | 0 => 3 | 1 => 387 | 2 => 899 | 3 => 419 | 4 => 65955 | 5 => 16 | 6 => 387 | 7 => 16 | _ => 0
theorem fok46 : fnOkX Tryz.prog xmoves xcaps 46 Tryz.f46 ord46 := fnOkX_mk Tryz.func46 (by kernel_rfl)
def ord47 : Nat → RHint := fun _ => default
def live47 : Nat → Nat := fun n => match n with | 0 => 2 | 1 => 10 | 2 => 8 | 3 => 4 | _ => 0
theorem fok47 : fnOkX Tryz.prog xmoves xcaps 47 Tryz.f47 ord47 := fnOkX_mk Tryz.func47 (by kernel_rfl)
def ord48 : Nat → RHint := fun _ => default
def live48 : Nat → Nat := fun n => match n with | 0 => 1 | 1 => 4 | _ => 0
theorem fok48 : fnOkX Tryz.prog xmoves xcaps 48 Tryz.f48 ord48 := fnOkX_mk Tryz.func48 (by kernel_rfl)
def ord49 : Nat → RHint := fun _ => default
def live49 : Nat → Nat := fun n => match n with | 0 => 5 | 1 => 0 | _ => 0
theorem fok49 : fnOkX Tryz.prog xmoves xcaps 49 Tryz.f49 ord49 := fnOkX_mk Tryz.func49 (by kernel_rfl)
def ord50 : Nat → RHint := fun _ => default
def live50 : Nat → Nat := fun n => match n with | 0 => 33 | 1 => 161 | 2 => 41 | 3 => 8225 | _ => 0
theorem fok50 : fnOkX Tryz.prog xmoves xcaps 50 Tryz.f50 ord50 := fnOkX_mk Tryz.func50 (by kernel_rfl)
def ord51 : Nat → RHint := fun _ => default
def live51 : Nat → Nat := fun n => match n with | 0 => 65 | 1 => 0 | 2 => 524288 | _ => 0
theorem fok51 : fnOkX Tryz.prog xmoves xcaps 51 Tryz.f51 ord51 := fnOkX_mk Tryz.func51 (by kernel_rfl)
def ord52 : Nat → RHint := fun _ => default
def live52 : Nat → Nat := fun n => match n with | 0 => 1 | 1 => 4 | _ => 0
theorem fok52 : fnOkX Tryz.prog xmoves xcaps 52 Tryz.f52 ord52 := fnOkX_mk Tryz.func52 (by kernel_rfl)
def ord53 : Nat → RHint := fun _ => default
def live53 : Nat → Nat := fun n => match n with | 0 => 5 | 1 => 28673 | 2 => 61441 | 3 => 28801 | 4 => 28801 | 5 => 28673 | 6 => 28673 | 7 => 0 | _ => 0
theorem fok53 : fnOkX Tryz.prog xmoves xcaps 53 Tryz.f53 ord53 := fnOkX_mk Tryz.func53 (by kernel_rfl)
def ord54 : Nat → RHint := fun n => match n with | 11 => ⟨[(0, false), (1, false), (2, false), (3, false), (4, false), (5, false), (8, false), (6, true), (7, false), (9, true), (10, false), (11, true), (12, false)], none, [1], [13]⟩ | _ => default
def live54 : Nat → Nat := fun n => match n with | 0 => 78 | 1 => 206 | 2 => 206 | 3 => 65742 | 4 => 974 | 5 => 67109838 | 6 => 64 | 7 => 206 | 8 => 120259084494 | 9 => 257698037966 | 10 => 120259087566 | 11 => 120259084494 | 12 => 120259084494 | 13 => 64 | _ => 0
theorem fok54 : fnOkX Tryz.prog xmoves xcaps 54 Tryz.f54 ord54 := fnOkX_mk Tryz.func54 (by kernel_rfl)
def ord55 : Nat → RHint := fun _ => default
def live55 : Nat → Nat := fun n => match n with | 0 => 7 | 1 => 135 | 2 => 524421 | 3 => 96 | 4 => 96 | _ => 0
theorem fok55 : fnOkX Tryz.prog xmoves xcaps 55 Tryz.f55 ord55 := fnOkX_mk Tryz.func55 (by kernel_rfl)
def ord56 : Nat → RHint := fun _ => default
def live56 : Nat → Nat := fun n => match n with | 0 => 1 | 1 => 8 | 2 => 4 | 3 => 4 | _ => 0
theorem fok56 : fnOkX Tryz.prog xmoves xcaps 56 Tryz.f56 ord56 := fnOkX_mk Tryz.func56 (by kernel_rfl)
def ord57 : Nat → RHint := fun _ => default
def live57 : Nat → Nat := fun n => match n with | 0 => 1 | 1 => 4 | _ => 0
theorem fok57 : fnOkX Tryz.prog xmoves xcaps 57 Tryz.f57 ord57 := fnOkX_mk Tryz.func57 (by kernel_rfl)
def ord58 : Nat → RHint := fun _ => default
def live58 : Nat → Nat := fun n => match n with | 0 => 3 | 1 => 35 | 2 => 547 | 3 => 35 | 4 => 131107 | 5 => 16 | 6 => 16 | _ => 0
theorem fok58 : fnOkX Tryz.prog xmoves xcaps 58 Tryz.f58 ord58 := fnOkX_mk Tryz.func58 (by kernel_rfl)
def ord59 : Nat → RHint := fun _ => default
def live59 : Nat → Nat := fun n => match n with | 0 => 1 | 1 => 4 | _ => 0
theorem fok59 : fnOkX Tryz.prog xmoves xcaps 59 Tryz.f59 ord59 := fnOkX_mk Tryz.func59 (by kernel_rfl)
def ord60 : Nat → RHint := fun _ => default
def live60 : Nat → Nat := fun n => match n with | 0 => 1 | 1 => 4 | _ => 0
theorem fok60 : fnOkX Tryz.prog xmoves xcaps 60 Tryz.f60 ord60 := fnOkX_mk Tryz.func60 (by kernel_rfl)
def ord61 : Nat → RHint := fun _ => default
def live61 : Nat → Nat := fun n => match n with | 0 => 3 | 1 => 387 | 2 => 899 | 3 => 419 | 4 => 65955 | 5 => 16 | 6 => 387 | 7 => 16 | _ => 0
theorem fok61 : fnOkX Tryz.prog xmoves xcaps 61 Tryz.f61 ord61 := fnOkX_mk Tryz.func61 (by kernel_rfl)
def ord62 : Nat → RHint := fun _ => default
def live62 : Nat → Nat := fun n => match n with | 0 => 2 | 1 => 10 | 2 => 4 | 3 => 4096 | 4 => 4 | 5 => 4 | _ => 0
theorem fok62 : fnOkX Tryz.prog xmoves xcaps 62 Tryz.f62 ord62 := fnOkX_mk Tryz.func62 (by kernel_rfl)
def ord63 : Nat → RHint := fun _ => default
def live63 : Nat → Nat := fun n => match n with | 0 => 2 | 1 => 4 | _ => 0
theorem fok63 : fnOkX Tryz.prog xmoves xcaps 63 Tryz.f63 ord63 := fnOkX_mk Tryz.func63 (by kernel_rfl)
def ord64 : Nat → RHint := fun _ => default
def live64 : Nat → Nat := fun n => match n with | 0 => 3 | 1 => 16 | _ => 0
theorem fok64 : fnOkX Tryz.prog xmoves xcaps 64 Tryz.f64 ord64 := fnOkX_mk Tryz.func64 (by kernel_rfl)
def ord65 : Nat → RHint := fun _ => default
def live65 : Nat → Nat := fun n => match n with | 0 => 2 | 1 => 10 | 2 => 8 | 3 => 4 | _ => 0
theorem fok65 : fnOkX Tryz.prog xmoves xcaps 65 Tryz.f65 ord65 := fnOkX_mk Tryz.func65 (by kernel_rfl)
def ord66 : Nat → RHint := fun _ => default
def live66 : Nat → Nat := fun n => match n with | 0 => 3 | 1 => 8 | _ => 0
theorem fok66 : fnOkX Tryz.prog xmoves xcaps 66 Tryz.f66 ord66 := fnOkX_mk Tryz.func66 (by kernel_rfl)
def ord67 : Nat → RHint := fun n => match n with | 1 => ⟨[(0, false), (1, false), (2, false), (3, false), (5, false), (6, false), (7, false), (8, false), (10, false), (11, false), (12, false), (13, false), (15, false), (16, false), (17, false), (18, false), (19, false), (20, false), (4, true), (9, true), (14, true)], none, [], [21, 22, 23, 24]⟩ | 5 => ⟨[(0, false), (1, false), (2, false), (3, false), (4, false), (5, false), (6, false), (7, false), (8, false), (9, false)], none, [], [10, 11]⟩ | _ => default
def live67 : Nat → Nat := fun n => match n with | 0 => 12 | 1 => 44 | 2 => 108 | 3 => 549755813996 | 4 => 108 | 5 => 108 | 6 => 16 | _ => 0
theorem fok67 : fnOkX Tryz.prog xmoves xcaps 67 Tryz.f67 ord67 := fnOkX_mk Tryz.func67 (by kernel_rfl)
def ord68 : Nat → RHint := fun _ => default
def live68 : Nat → Nat := fun n => match n with | 0 => 3 | 1 => 387 | 2 => 899 | 3 => 419 | 4 => 65955 | 5 => 16 | 6 => 387 | 7 => 16 | _ => 0
theorem fok68 : fnOkX Tryz.prog xmoves xcaps 68 Tryz.f68 ord68 := fnOkX_mk Tryz.func68 (by kernel_rfl)
def ord69 : Nat → RHint := fun _ => default
def live69 : Nat → Nat := fun n => match n with | 0 => 6 | 1 => 262 | 2 => 6 | 3 => 114690 | 4 => 245762 | 5 => 114722 | 6 => 114690 | 7 => 114690 | _ => 0
theorem fok69 : fnOkX Tryz.prog xmoves xcaps 69 Tryz.f69 ord69 := fnOkX_mk Tryz.func69 (by kernel_rfl)
def ord70 : Nat → RHint := fun _ => default
def live70 : Nat → Nat := fun n => match n with | 0 => 6 | 1 => 4 | 4 => 16 | _ => 0
theorem fok70 : fnOkX Tryz.prog xmoves xcaps 70 Tryz.f70 ord70 := fnOkX_mk Tryz.func70 (by kernel_rfl)
def ord71 : Nat → RHint := fun n => match n with | 17 => ⟨[(0, false), (1, false), (2, false), (3, false), (4, false), (5, false), (6, false), (7, false), (8, false), (9, false), (10, false), (11, false)], none, [], [12, 13, 14]⟩ | _ => default
def live71 : Nat → Nat := fun n => match n with | 0 => 271 | 1 => 783 | 2 => 1807 | 3 => 8390415 | 4 => 0 | 5 => 536872719 | 6 => 0 | 7 => 34359740175 | 8 => 1807 | 9 => 1807 | 10 => 7951 | 11 => 1125899906850575 | 12 => 3855 | 13 => 3855 | 14 => 7951 | 15 => 295147905179352829711 | 16 => 4722366482869645217551 | 17 => 154742504910672534362394383 | 18 => 8973 | 19 => 783 | 20 => 50191 | 21 => 17935 | 22 => 214543 | 23 => 475663 | 24 => 10384593717069655257060992658915855 | 25 => 17167 | 26 => 17165 | 27 => 783 | 28 => 17167 | 29 => 17163 | 30 => 783 | _ => 0
theorem fok71 : fnOkX Tryz.prog xmoves xcaps 71 Tryz.f71 ord71 := fnOkX_mk Tryz.func71 (by kernel_rfl)
def ord72 : Nat → RHint := fun _ => default
def live72 : Nat → Nat := fun n => match n with | 0 => 1 | 1 => 4 | 2 => 4 | _ => 0
theorem fok72 : fnOkX Tryz.prog xmoves xcaps 72 Tryz.f72 ord72 := fnOkX_mk Tryz.func72 (by kernel_rfl)
def ord74 : Nat → RHint := fun _ => default
def live74 : Nat → Nat := fun n => match n with | 0 => 3 | 1 => 2051 | 2 => 131073 | 3 => 16 | 4 => 33 | 5 => 97 | 6 => 8388705 | 7 => 97 | 8 => 225 | 9 => 161 | 10 => 17179869344 | 11 => 160 | 12 => 16 | 13 => 16 | 14 => 512 | 15 => 16 | _ => 0
theorem fok74 : fnOkX Tryz.prog xmoves xcaps 74 Tryz.f74 ord74 := fnOkX_mk Tryz.func74 (by kernel_rfl)
def ord75 : Nat → RHint := fun n => match n with | 6 => ⟨[(0, false), (1, false), (2, false), (3, true), (4, false), (5, true), (6, false)], none, [1], [7]⟩ | _ => default
def live75 : Nat → Nat := fun n => match n with | 0 => 6 | 1 => 14 | 2 => 14 | 3 => 3596 | 4 => 7692 | 5 => 3628 | 6 => 3596 | 7 => 3596 | 8 => 4 | _ => 0
theorem fok75 : fnOkX Tryz.prog xmoves xcaps 75 Tryz.f75 ord75 := fnOkX_mk Tryz.func75 (by kernel_rfl)
def ord76 : Nat → RHint := fun _ => default
def live76 : Nat → Nat := fun n => match n with | 0 => 6 | 1 => 2048 | 2 => 16 | 3 => 16 | _ => 0
theorem fok76 : fnOkX Tryz.prog xmoves xcaps 76 Tryz.f76 ord76 := fnOkX_mk Tryz.func76 (by kernel_rfl)
def ord77 : Nat → RHint := fun _ => default
def live77 : Nat → Nat := fun n => match n with | 0 => 1 | 1 => 4 | _ => 0
theorem fok77 : fnOkX Tryz.prog xmoves xcaps 77 Tryz.f77 ord77 := fnOkX_mk Tryz.func77 (by kernel_rfl)
def ord78 : Nat → RHint := fun _ => default
def live78 : Nat → Nat := fun n => match n with | 0 => 2 | 1 => 10 | 2 => 904 | 3 => 1928 | 4 => 936 | 5 => 904 | 6 => 904 | 7 => 4 | _ => 0
theorem fok78 : fnOkX Tryz.prog xmoves xcaps 78 Tryz.f78 ord78 := fnOkX_mk Tryz.func78 (by kernel_rfl)
def ord79 : Nat → RHint := fun _ => default
def live79 : Nat → Nat := fun n => match n with | 0 => 2 | 1 => 10 | 2 => 904 | 3 => 1928 | 4 => 936 | 5 => 904 | 6 => 904 | 7 => 4 | _ => 0
theorem fok79 : fnOkX Tryz.prog xmoves xcaps 79 Tryz.f79 ord79 := fnOkX_mk Tryz.func79 (by kernel_rfl)
def ord80 : Nat → RHint := fun _ => default
def live80 : Nat → Nat := fun n => match n with | 0 => 2 | 1 => 4 | _ => 0
theorem fok80 : fnOkX Tryz.prog xmoves xcaps 80 Tryz.f80 ord80 := fnOkX_mk Tryz.func80 (by kernel_rfl)
def ord81 : Nat → RHint := fun n => match n with | 6 => ⟨[(0, false), (1, false), (2, false), (3, false), (4, true), (5, false)], none, [], [6, 7]⟩ | _ => default
def live81 : Nat → Nat := fun n => match n with | 0 => 6 | 1 => 32774 | 2 => 16 | 3 => 917510 | 4 => 1966086 | 5 => 917606 | 6 => 2148401158 | 7 => 16 | 8 => 917510 | 9 => 16 | _ => 0
theorem fok81 : fnOkX Tryz.prog xmoves xcaps 81 Tryz.f81 ord81 := fnOkX_mk Tryz.func81 (by kernel_rfl)
def ord82 : Nat → RHint := fun _ => default
def live82 : Nat → Nat := fun n => match n with | 0 => 2 | 1 => 4 | _ => 0
theorem fok82 : fnOkX Tryz.prog xmoves xcaps 82 Tryz.f82 ord82 := fnOkX_mk Tryz.func82 (by kernel_rfl)
def ord83 : Nat → RHint := fun _ => default
def live83 : Nat → Nat := fun n => match n with | 0 => 3 | 1 => 387 | 2 => 899 | 3 => 419 | 4 => 65955 | 5 => 16 | 6 => 387 | 7 => 16 | _ => 0
theorem fok83 : fnOkX Tryz.prog xmoves xcaps 83 Tryz.f83 ord83 := fnOkX_mk Tryz.func83 (by kernel_rfl)
def ord84 : Nat → RHint := fun n => match n with | 6 => ⟨[(0, false), (1, false), (2, false), (3, false), (6, false), (4, true), (5, false)], none, [], [7]⟩ | _ => default
def live84 : Nat → Nat := fun n => match n with | 0 => 14 | 1 => 65550 | 2 => 14 | 3 => 117440526 | 4 => 251658254 | 5 => 117440718 | 6 => 117440526 | 7 => 117440526 | _ => 0
theorem fok84 : fnOkX Tryz.prog xmoves xcaps 84 Tryz.f84 ord84 := fnOkX_mk Tryz.func84 (by kernel_rfl)
def ord85 : Nat → RHint := fun _ => default
def live85 : Nat → Nat := fun n => match n with | 0 => 1 | 1 => 9 | 2 => 456 | 3 => 968 | 4 => 488 | 5 => 16872 | 6 => 4 | 7 => 456 | 8 => 4 | _ => 0
theorem fok85 : fnOkX Tryz.prog xmoves xcaps 85 Tryz.f85 ord85 := fnOkX_mk Tryz.func85 (by kernel_rfl)
def ord86 : Nat → RHint := fun _ => default
def live86 : Nat → Nat := fun n => match n with | 0 => 3 | 1 => 35 | 2 => 99 | 3 => 2115 | 4 => 4096 | 5 => 16 | 6 => 16 | 7 => 8195 | 8 => 16 | 9 => 65539 | 10 => 16 | 11 => 524288 | 12 => 16 | 13 => 16 | _ => 0
theorem fok86 : fnOkX Tryz.prog xmoves xcaps 86 Tryz.f86 ord86 := fnOkX_mk Tryz.func86 (by kernel_rfl)
def ord87 : Nat → RHint := fun _ => default
def live87 : Nat → Nat := fun n => match n with | 0 => 3 | 1 => 35 | 2 => 99 | 3 => 2115 | 4 => 4096 | 5 => 16 | 6 => 16 | 7 => 8195 | 8 => 16 | 9 => 65539 | 10 => 16 | 11 => 524288 | 12 => 16 | 13 => 16 | _ => 0
theorem fok87 : fnOkX Tryz.prog xmoves xcaps 87 Tryz.f87 ord87 := fnOkX_mk Tryz.func87 (by kernel_rfl)
def ord88 : Nat → RHint := fun _ => default
def live88 : Nat → Nat := fun n => match n with | 0 => 51 | 1 => 65555 | 2 => 0 | _ => 0
theorem fok88 : fnOkX Tryz.prog xmoves xcaps 88 Tryz.f88 ord88 := fnOkX_mk Tryz.func88 (by kernel_rfl)
def ord89 : Nat → RHint := fun n => match n with | 4 => ⟨[(0, false), (1, false), (2, false), (3, false), (4, false), (5, false), (6, false), (7, false), (8, false), (9, false), (10, false), (11, false), (12, false)], none, [], [13, 14]⟩ | 6 => ⟨[], some 999999, [], []⟩ | _ => default
def live89 : Nat → Nat := fun n => match n with | 0 => 71 | 1 => 4167 | 2 => 71 | 3 => 199 | 4 => 1073742023 | 5 => 199 | 6 => 199 | _ => 0
theorem fok89 : fnOkX Tryz.prog xmoves xcaps 89 Tryz.f89 ord89 := fnOkX_mk Tryz.func89 (by kernel_rfl)
def ord90 : Nat → RHint := fun n => match n with | 10 => ⟨[], some 999999, [], []⟩ | _ => default
def live90 : Nat → Nat := fun n => match n with | 0 => 71 | 1 => 199 | 2 => 449 | 3 => 961 | 4 => 525249 | 5 => 961 | 6 => 961 | 7 => 1217 | 8 => 1073743041 | 9 => 1217 | 10 => 1217 | 11 => 1217 | _ => 0
theorem fok90 : fnOkX Tryz.prog xmoves xcaps 90 Tryz.f90 ord90 := fnOkX_mk Tryz.func90 (by kernel_rfl)
def ord91 : Nat → RHint := fun n => match n with | 10 => ⟨[], some 999999, [], []⟩ | _ => default
def live91 : Nat → Nat := fun n => match n with | 0 => 67 | 1 => 32835 | 2 => 195 | 3 => 451 | 4 => 963 | 5 => 8589935555 | 6 => 963 | 7 => 1987 | 8 => 8796093024195 | 9 => 1987 | 10 => 963 | _ => 0
theorem fok91 : fnOkX Tryz.prog xmoves xcaps 91 Tryz.f91 ord91 := fnOkX_mk Tryz.func91 (by kernel_rfl)
def ord92 : Nat → RHint := fun _ => default
def live92 : Nat → Nat := fun n => match n with | 0 => 7 | 1 => 259 | 2 => 771 | 3 => 1795 | 4 => 3843 | 5 => 7937 | 6 => 4294975233 | 7 => 17179876865 | 8 => 7681 | 9 => 7681 | 10 => 7681 | 11 => 2560 | 12 => 562949953423360 | 13 => 192 | 14 => 2814749767108608 | 15 => 192 | 16 => 18014398509484032 | 17 => 192 | _ => 0
theorem fok92 : fnOkX Tryz.prog xmoves xcaps 92 Tryz.f92 ord92 := fnOkX_mk Tryz.func92 (by kernel_rfl)
def ord93 : Nat → RHint := fun n => match n with | 3 => ⟨[], some 999999, [], []⟩ | _ => default
def live93 : Nat → Nat := fun n => match n with | 0 => 69 | 1 => 193 | 2 => 8385 | 3 => 193 | 4 => 193 | 5 => 193 | _ => 0
theorem fok93 : fnOkX Tryz.prog xmoves xcaps 93 Tryz.f93 ord93 := fnOkX_mk Tryz.func93 (by kernel_rfl)
def ord94 : Nat → RHint := fun n => match n with | 5 => ⟨[(0, false), (1, false), (2, false), (3, false), (4, false), (5, false), (6, false), (7, false), (8, false), (9, false), (10, false), (11, false), (12, false)], none, [], [13, 14, 15]⟩ | 11 => ⟨[], some 999999, [], []⟩ | 16 => ⟨[(0, false), (1, false), (2, false), (3, false), (4, false), (5, false), (6, false), (7, false), (8, false)], none, [], [9, 10]⟩ | 17 => ⟨[], some 999999, [], []⟩ | 22 => ⟨[(0, false), (1, false), (2, false), (3, false), (4, false), (5, false), (6, false), (7, false), (8, false)], none, [], [9, 10]⟩ | 23 => ⟨[], some 999999, [], []⟩ | _ => default
def live94 : Nat → Nat := fun n => match n with | 0 => 7 | 1 => 135 | 2 => 391 | 3 => 16775 | 4 => 391 | 5 => 4294967687 | 6 => 391 | 7 => 137438953863 | 8 => 64 | 9 => 2199023255943 | 10 => 64 | 11 => 391 | 12 => 2305843009213694343 | 13 => 903 | 14 => 36893488147419104135 | 15 => 903 | 16 => 302231454903657293677447 | 17 => 903 | 18 => 316912650057057350374175801735 | 19 => 1415 | 20 => 10141204801825835211973625644423 | 21 => 1415 | 22 => 83076749736557242056487941267522951 | 23 => 1415 | 24 => 64 | _ => 0
theorem fok94 : fnOkX Tryz.prog xmoves xcaps 94 Tryz.f94 ord94 := fnOkX_mk Tryz.func94 (by kernel_rfl)
def ord95 : Nat → RHint := fun _ => default
def live95 : Nat → Nat := fun n => match n with | 0 => 3 | 1 => 16 | _ => 0
theorem fok95 : fnOkX Tryz.prog xmoves xcaps 95 Tryz.f95 ord95 := fnOkX_mk Tryz.func95 (by kernel_rfl)
def ord96 : Nat → RHint := fun n => match n with | 1 => ⟨[], some 999999, [], []⟩ | 3 => ⟨[(0, false), (1, false), (2, false), (3, false), (4, false), (5, false), (6, false), (7, false), (8, false), (9, false), (10, false), (11, false)], none, [], [12, 13, 14]⟩ | 5 => ⟨[(0, false), (1, false), (2, false), (3, false), (4, false), (5, false), (6, false), (7, false), (8, false), (9, false), (10, false), (11, false)], none, [], [12, 13]⟩ | 8 => ⟨[], some 999999, [], []⟩ | _ => default
def live96 : Nat → Nat := fun n => match n with | 0 => 15 | 1 => 7 | 2 => 1539 | 3 => 8796093023747 | 4 => 1539 | 5 => 576460752303425027 | 6 => 1539 | 7 => 18446744073709553155 | 8 => 1539 | 9 => 1539 | 10 => 1539 | 11 => 256 | _ => 0
theorem fok96 : fnOkX Tryz.prog xmoves xcaps 96 Tryz.f96 ord96 := fnOkX_mk Tryz.func96 (by kernel_rfl)
def ord97 : Nat → RHint := fun n => match n with | 1 => ⟨[], some 999999, [], []⟩ | 3 => ⟨[(0, false), (1, false), (2, false), (3, false), (4, false), (5, false), (6, false), (7, false), (8, false), (9, false), (10, false), (11, false)], none, [], [12, 13]⟩ | 5 => ⟨[(0, false), (1, false), (2, false), (3, false), (4, false), (5, false), (6, false), (7, false), (8, false), (9, false), (10, false), (11, false)], none, [], [12, 13, 14]⟩ | 8 => ⟨[], some 999999, [], []⟩ | 10 => ⟨[], some 999999, [], []⟩ | 13 => ⟨[(0, false), (1, false), (2, false), (3, false), (4, false), (5, false), (6, false), (7, false), (8, false), (9, false), (10, false), (11, false)], none, [], [12, 13]⟩ | 15 => ⟨[(0, false), (1, false), (2, false), (3, false), (4, false), (5, false), (6, false), (7, false), (8, false), (9, false), (10, false), (11, false)], none, [], [12, 13, 14]⟩ | 18 => ⟨[], some 999999, [], []⟩ | 21 => ⟨[], some 999999, [], []⟩ | _ => default
def live97 : Nat → Nat := fun n => match n with | 0 => 15 | 1 => 7 | 2 => 3075 | 3 => 8796093025283 | 4 => 3075 | 5 => 1152921504606850051 | 6 => 3075 | 7 => 36893488147419106307 | 8 => 2048 | 9 => 768 | 10 => 3075 | 11 => 3075 | 12 => 3075 | 13 => 5192296858534827628530496329223171 | 14 => 3075 | 15 => 680564733841876926926749214863536425987 | 16 => 3075 | 17 => 21778071482940061661655974875633165536259 | 18 => 3075 | 19 => 3075 | 20 => 3075 | 21 => 2048 | 22 => 768 | _ => 0
theorem fok97 : fnOkX Tryz.prog xmoves xcaps 97 Tryz.f97 ord97 := fnOkX_mk Tryz.func97 (by kernel_rfl)
def ord98 : Nat → RHint := fun _ => default
def live98 : Nat → Nat := fun n => match n with | 0 => 5 | 1 => 21 | 2 => 1 | 3 => 5 | 4 => 261 | 5 => 5 | 6 => 5 | 7 => 4 | _ => 0
theorem fok98 : fnOkX Tryz.prog xmoves xcaps 98 Tryz.f98 ord98 := fnOkX_mk Tryz.func98 (by kernel_rfl)
def ord99 : Nat → RHint := fun _ => default
def live99 : Nat → Nat := fun n => match n with | 0 => 5 | 1 => 21 | 2 => 1 | 3 => 5 | 4 => 261 | 5 => 5 | 6 => 5 | 7 => 16389 | 8 => 5 | 9 => 5 | 10 => 4 | _ => 0
theorem fok99 : fnOkX Tryz.prog xmoves xcaps 99 Tryz.f99 ord99 := fnOkX_mk Tryz.func99 (by kernel_rfl)
def ord100 : Nat → RHint := fun _ => default
def live100 : Nat → Nat := fun n => match n with | 0 => 1 | 1 => 17 | 2 => 4 | 3 => 4 | _ => 0
theorem fok100 : fnOkX Tryz.prog xmoves xcaps 100 Tryz.f100 ord100 := fnOkX_mk Tryz.func100 (by kernel_rfl)
def ord101 : Nat → RHint := fun _ => default
def live101 : Nat → Nat := fun n => match n with | 0 => 1 | 1 => 9 | 2 => 4 | _ => 0
theorem fok101 : fnOkX Tryz.prog xmoves xcaps 101 Tryz.f101 ord101 := fnOkX_mk Tryz.func101 (by kernel_rfl)
def ord102 : Nat → RHint := fun n => match n with | 7 => ⟨[], some 999999, [], []⟩ | 8 => ⟨[], some 999999, [], []⟩ | 9 => ⟨[], some 999999, [], []⟩ | 10 => ⟨[], some 999999, [], []⟩ | 17 => ⟨[], some 999999, [], []⟩ | 18 => ⟨[], some 999999, [], []⟩ | 23 => ⟨[], some 999999, [], []⟩ | _ => default
def live102 : Nat → Nat := fun n => match n with | 0 => 19 | 1 => 1048595 | 2 => 51 | 3 => 51 | 4 => 211 | 5 => 851 | 6 => 3859 | 7 => 3347 | 8 => 3091 | 9 => 1043 | 10 => 19 | 11 => 19 | 12 => 4113 | 13 => 633825300114114700748351606801 | 14 => 12305 | 15 => 12305 | 16 => 53265 | 17 => 20497 | 18 => 4113 | 19 => 4113 | 20 => 696898287454081973172991196020261297066001 | 21 => 69649 | 22 => 69649 | 23 => 4113 | 24 => 4113 | 25 => 2923003274661805836407369665432566039311865090049 | 26 => 0 | _ => 0
theorem fok102 : fnOkX Tryz.prog xmoves xcaps 102 Tryz.f102 ord102 := fnOkX_mk Tryz.func102 (by kernel_rfl)
def ord103 : Nat → RHint := fun _ => default
def live103 : Nat → Nat := fun n => match n with | 0 => 3103 | 1 => 268438559 | 2 => 3103 | 3 => 7199 | 4 => 15391 | 5 => 1073757215 | 6 => 15391 | 7 => 17179884575 | 8 => 31775 | 9 => 64543 | 10 => 130075 | 11 => 70368744307739 | 12 => 130075 | 13 => 130075 | 14 => 130075 | 15 => 15387 | 16 => 15385 | 17 => 146459 | 18 => 295147905179352972315 | 19 => 146459 | 20 => 408603 | 21 => 408601 | 22 => 146459 | 23 => 15387 | 24 => 15385 | 25 => 618970019642690137449577489 | 26 => 15377 | 27 => 15377 | 28 => 19807040628566084398386002945 | 29 => 3072 | 30 => 3072 | _ => 0
theorem fok103 : fnOkX Tryz.prog xmoves xcaps 103 Tryz.f103 ord103 := fnOkX_mk Tryz.func103 (by kernel_rfl)
def ord104 : Nat → RHint := fun _ => default
def live104 : Nat → Nat := fun n => match n with | 0 => 2 | 1 => 1048578 | 2 => 4 | 3 => 4194306 | 4 => 12582914 | 5 => 12582914 | 6 => 4 | 7 => 1077936130 | 8 => 4 | 9 => 4503599631564802 | 10 => 4 | 11 => 288230376155906050 | 12 => 4 | 13 => 18446744073713745922 | 14 => 4 | 15 => 1208925819614629174706178 | 16 => 4 | 17 => 4 | _ => 0
theorem fok104 : fnOkX Tryz.prog xmoves xcaps 104 Tryz.f104 ord104 := fnOkX_mk Tryz.func104 (by kernel_rfl)
def ord105 : Nat → RHint := fun _ => default
def live105 : Nat → Nat := fun n => match n with | 0 => 2 | 1 => 4 | _ => 0
theorem fok105 : fnOkX Tryz.prog xmoves xcaps 105 Tryz.f105 ord105 := fnOkX_mk Tryz.func105 (by kernel_rfl)
def ord106 : Nat → RHint := fun _ => default
def live106 : Nat → Nat := fun n => match n with | 0 => 2 | 1 => 4 | _ => 0
theorem fok106 : fnOkX Tryz.prog xmoves xcaps 106 Tryz.f106 ord106 := fnOkX_mk Tryz.func106 (by kernel_rfl)
def ord107 : Nat → RHint := fun _ => default
def live107 : Nat → Nat := fun n => match n with | 0 => 51 | 1 => 65555 | 2 => 0 | _ => 0
theorem fok107 : fnOkX Tryz.prog xmoves xcaps 107 Tryz.f107 ord107 := fnOkX_mk Tryz.func107 (by kernel_rfl)
def ord108 : Nat → RHint := fun _ => default
def live108 : Nat → Nat := fun n => match n with | 0 => 1 | 1 => 4 | _ => 0
theorem fok108 : fnOkX Tryz.prog xmoves xcaps 108 Tryz.f108 ord108 := fnOkX_mk Tryz.func108 (by kernel_rfl)
def ord109 : Nat → RHint := fun _ => default
def live109 : Nat → Nat := fun n => match n with | 0 => 1 | 1 => 4 | _ => 0
theorem fok109 : fnOkX Tryz.prog xmoves xcaps 109 Tryz.f109 ord109 := fnOkX_mk Tryz.func109 (by kernel_rfl)
def ord110 : Nat → RHint := fun _ => default
def live110 : Nat → Nat := fun n => match n with | 0 => 3 | 1 => 67 | 2 => 451 | 3 => 33219 | 4 => 963 | 5 => 134218691 | 6 => 451 | 7 => 451 | 8 => 48 | _ => 0
theorem fok110 : fnOkX Tryz.prog xmoves xcaps 110 Tryz.f110 ord110 := fnOkX_mk Tryz.func110 (by kernel_rfl)
def ord111 : Nat → RHint := fun n => match n with | 11 => ⟨[(0, false), (1, false), (2, false), (3, false), (4, false), (5, false), (6, false), (7, false)], none, [], [8]⟩ | 15 => ⟨[(0, false), (1, false), (2, false), (3, false), (4, false), (5, false), (6, false), (7, false)], none, [], [8]⟩ | _ => default
def live111 : Nat → Nat := fun n => match n with | 0 => 7 | 1 => 7 | 2 => 135 | 3 => 65671 | 4 => 64 | 5 => 391 | 6 => 4194695 | 7 => 64 | 8 => 2147484039 | 9 => 647 | 10 => 643 | 11 => 512 | 12 => 64 | 13 => 391 | 14 => 295147905179352826247 | 15 => 7 | 16 => 1 | 17 => 64 | 18 => 131 | 19 => 1 | 20 => 64 | _ => 0
theorem fok111 : fnOkX Tryz.prog xmoves xcaps 111 Tryz.f111 ord111 := fnOkX_mk Tryz.func111 (by kernel_rfl)
def ord112 : Nat → RHint := fun n => match n with | 3 => ⟨[(0, false), (1, false), (2, false), (3, false), (4, false), (5, false), (6, false), (7, false), (8, false), (9, false), (10, false), (11, false), (12, false), (13, false), (14, false), (15, false), (16, false), (17, false)], none, [], [18, 19]⟩ | 5 => ⟨[(0, false), (1, false), (2, false), (3, false), (4, false), (5, false), (6, false), (7, false), (8, false), (9, false), (10, false), (11, false)], none, [], [12, 13]⟩ | 6 => ⟨[], some 999999, [], []⟩ | _ => default
def live112 : Nat → Nat := fun n => match n with | 0 => 269 | 1 => 781 | 2 => 66317 | 3 => 68719477517 | 4 => 781 | 5 => 4503599627371277 | 6 => 525 | 7 => 269 | _ => 0
theorem fok112 : fnOkX Tryz.prog xmoves xcaps 112 Tryz.f112 ord112 := fnOkX_mk Tryz.func112 (by kernel_rfl)
def ord113 : Nat → RHint := fun _ => default
def live113 : Nat → Nat := fun n => match n with | 0 => 1 | 1 => 4 | _ => 0
theorem fok113 : fnOkX Tryz.prog xmoves xcaps 113 Tryz.f113 ord113 := fnOkX_mk Tryz.func113 (by kernel_rfl)
def ord114 : Nat → RHint := fun n => match n with | 1 => ⟨[(0, false), (1, false), (2, false), (3, false), (4, false), (5, false), (6, false), (7, false), (8, false)], none, [], [9]⟩ | 2 => ⟨[(0, false), (1, false), (2, false), (3, false), (4, false), (5, false), (6, false), (7, false), (8, false)], none, [], [9]⟩ | 3 => ⟨[(0, false), (1, false), (2, false), (3, false), (4, false), (5, false), (6, false), (7, false), (8, false)], none, [], [9]⟩ | _ => default
def live114 : Nat → Nat := fun n => match n with | 0 => 1 | 1 => 1 | 2 => 1 | 3 => 1 | 4 => 4 | _ => 0
theorem fok114 : fnOkX Tryz.prog xmoves xcaps 114 Tryz.f114 ord114 := fnOkX_mk Tryz.func114 (by kernel_rfl)
def ord115 : Nat → RHint := fun _ => default
def live115 : Nat → Nat := fun n => match n with | 0 => 7 | 1 => 64 | _ => 0
theorem fok115 : fnOkX Tryz.prog xmoves xcaps 115 Tryz.f115 ord115 := fnOkX_mk Tryz.func115 (by kernel_rfl)
def ord116 : Nat → RHint := fun _ => default
def live116 : Nat → Nat := fun n => match n with | 0 => 31 | 1 => 31 | 2 => 23 | 3 => 4 | 4 => 1024 | _ => 0
theorem fok116 : fnOkX Tryz.prog xmoves xcaps 116 Tryz.f116 ord116 := fnOkX_mk Tryz.func116 (by kernel_rfl)
def ord117 : Nat → RHint := fun _ => default
def live117 : Nat → Nat := fun n => match n with | 0 => 1 | 1 => 4 | _ => 0
theorem fok117 : fnOkX Tryz.prog xmoves xcaps 117 Tryz.f117 ord117 := fnOkX_mk Tryz.func117 (by kernel_rfl)
def ord118 : Nat → RHint := fun _ => default
def live118 : Nat → Nat := fun n => match n with | 0 => 1 | 1 => 8 | 2 => 4 | 3 => 4 | _ => 0
theorem fok118 : fnOkX Tryz.prog xmoves xcaps 118 Tryz.f118 ord118 := fnOkX_mk Tryz.func118 (by kernel_rfl)
def ord119 : Nat → RHint := fun _ => default
def live119 : Nat → Nat := fun n => match n with | 0 => 1 | 1 => 4 | _ => 0
theorem fok119 : fnOkX Tryz.prog xmoves xcaps 119 Tryz.f119 ord119 := fnOkX_mk Tryz.func119 (by kernel_rfl)
def ord120 : Nat → RHint := fun _ => default
def live120 : Nat → Nat := fun n => match n with | 0 => 1 | 1 => 4 | 2 => 4 | _ => 0
theorem fok120 : fnOkX Tryz.prog xmoves xcaps 120 Tryz.f120 ord120 := fnOkX_mk Tryz.func120 (by kernel_rfl)
def ord121 : Nat → RHint := fun _ => default
def live121 : Nat → Nat := fun n => match n with | 0 => 3 | 1 => 67 | 2 => 451 | 3 => 33219 | 4 => 963 | 5 => 134218691 | 6 => 451 | 7 => 451 | 8 => 48 | _ => 0
theorem fok121 : fnOkX Tryz.prog xmoves xcaps 121 Tryz.f121 ord121 := fnOkX_mk Tryz.func121 (by kernel_rfl)
def ord122 : Nat → RHint := fun n => match n with | 11 => ⟨[(0, false), (1, false), (2, false), (3, false), (4, false), (5, false), (6, false), (7, false)], none, [], [8]⟩ | 15 => ⟨[(0, false), (1, false), (2, false), (3, false), (4, false), (5, false), (6, false), (7, false)], none, [], [8]⟩ | _ => default
def live122 : Nat → Nat := fun n => match n with | 0 => 7 | 1 => 7 | 2 => 135 | 3 => 65671 | 4 => 64 | 5 => 391 | 6 => 4194695 | 7 => 64 | 8 => 2147484039 | 9 => 647 | 10 => 643 | 11 => 512 | 12 => 64 | 13 => 391 | 14 => 295147905179352826247 | 15 => 7 | 16 => 1 | 17 => 64 | 18 => 131 | 19 => 1 | 20 => 64 | _ => 0
theorem fok122 : fnOkX Tryz.prog xmoves xcaps 122 Tryz.f122 ord122 := fnOkX_mk Tryz.func122 (by kernel_rfl)
def ord123 : Nat → RHint := fun _ => default
def live123 : Nat → Nat := fun n => match n with | 0 => 1 | 1 => 4 | _ => 0
theorem fok123 : fnOkX Tryz.prog xmoves xcaps 123 Tryz.f123 ord123 := fnOkX_mk Tryz.func123 (by kernel_rfl)
def ord125 : Nat → RHint := fun _ => default
def live125 : Nat → Nat := fun n => match n with | 0 => 0 | _ => 0
theorem fok125 : fnOkX Tryz.prog xmoves xcaps 125 Tryz.f125 ord125 := fnOkX_mk Tryz.func125 (by kernel_rfl)
def ord126 : Nat → RHint := fun n => match n with | 1 => ⟨[(0, false), (1, false), (2, false), (3, false), (4, false), (5, false), (6, false), (7, false)], none, [], [8]⟩ | _ => default
def live126 : Nat → Nat := fun n => match n with | 0 => 15 | 1 => 262158 | 2 => 6 | 3 => 768 | 4 => 768 | _ => 0
theorem fok126 : fnOkX Tryz.prog xmoves xcaps 126 Tryz.f126 ord126 := fnOkX_mk Tryz.func126 (by kernel_rfl)
def ord127 : Nat → RHint := fun _ => default
def live127 : Nat → Nat := fun n => match n with | 0 => 1 | 1 => 17 | 2 => 4 | 3 => 4 | _ => 0
theorem fok127 : fnOkX Tryz.prog xmoves xcaps 127 Tryz.f127 ord127 := fnOkX_mk Tryz.func127 (by kernel_rfl)
def ord128 : Nat → RHint := fun _ => default
def live128 : Nat → Nat := fun n => match n with | 0 => 1 | 1 => 17 | 2 => 4 | 3 => 4 | _ => 0
theorem fok128 : fnOkX Tryz.prog xmoves xcaps 128 Tryz.f128 ord128 := fnOkX_mk Tryz.func128 (by kernel_rfl)
def ord129 : Nat → RHint := fun _ => default
def live129 : Nat → Nat := fun n => match n with | 0 => 3 | 1 => 16 | _ => 0
theorem fok129 : fnOkX Tryz.prog xmoves xcaps 129 Tryz.f129 ord129 := fnOkX_mk Tryz.func129 (by kernel_rfl)
def ord130 : Nat → RHint := fun _ => default
def live130 : Nat → Nat := fun n => match n with | 0 => 1 | 1 => 4 | _ => 0
theorem fok130 : fnOkX Tryz.prog xmoves xcaps 130 Tryz.f130 ord130 := fnOkX_mk Tryz.func130 (by kernel_rfl)
def ord132 : Nat → RHint := fun _ => default
def live132 : Nat → Nat := fun n => match n with | 0 => 0 | _ => 0
theorem fok132 : fnOkX Tryz.prog xmoves xcaps 132 Tryz.f132 ord132 := fnOkX_mk Tryz.func132 (by kernel_rfl)
def ord133 : Nat → RHint := fun _ => default
def live133 : Nat → Nat := fun n => match n with | 0 => 3 | 1 => 1 | 2 => 0 | _ => 0
theorem fok133 : fnOkX Tryz.prog xmoves xcaps 133 Tryz.f133 ord133 := fnOkX_mk Tryz.func133 (by kernel_rfl)
def ord134 : Nat → RHint := fun _ => default
def live134 : Nat → Nat := fun n => match n with | 0 => 3 | 1 => 1 | 2 => 0 | _ => 0
theorem fok134 : fnOkX Tryz.prog xmoves xcaps 134 Tryz.f134 ord134 := fnOkX_mk Tryz.func134 (by kernel_rfl)
def ord135 : Nat → RHint := fun n => match n with | 3 => ⟨[], some 999999, [], []⟩ | _ => default
def live135 : Nat → Nat := fun n => match n with | 0 => 13 | 1 => 525 | 2 => 13 | 3 => 13 | _ => 0
theorem fok135 : fnOkX Tryz.prog xmoves xcaps 135 Tryz.f135 ord135 := fnOkX_mk Tryz.func135 (by kernel_rfl)
def ord136 : Nat → RHint := fun n => match n with | 3 => ⟨[], some 999999, [], []⟩ | _ => default
def live136 : Nat → Nat := fun n => match n with | 0 => 13 | 1 => 525 | 2 => 13 | 3 => 13 | _ => 0
theorem fok136 : fnOkX Tryz.prog xmoves xcaps 136 Tryz.f136 ord136 := fnOkX_mk Tryz.func136 (by kernel_rfl)
def ord164 : Nat → RHint := fun _ => default
def live164 : Nat → Nat := fun n => match n with | 0 => 0 | 1 => 0 | 2 => 0 | 3 => 0 | 4 => 0 | _ => 0
theorem fok164 : fnOkX Tryz.prog xmoves xcaps 164 Tryz.f164 ord164 := fnOkX_mk Tryz.func164 (by kernel_rfl)
noncomputable def ftab : FTr := (.node (.node (.node (.node (.node (.node (.node (.node .nil 2 Tryz.f2 ord2 live2 .nil) 3 Tryz.f3 ord3 live3 .nil) 4 Tryz.f4 ord4 live4 (.node .nil 5 Tryz.f5 ord5 live5 .nil)) 6 Tryz.f6 ord6 live6 (.node (.node .nil 7 Tryz.f7 ord7 live7 .nil) 8 Tryz.f8 ord8 live8 (.node .nil 9 Tryz.f9 ord9 live9 .nil))) 10 Tryz.f10 ord10 live10 (.node (.node (.node .nil 11 Tryz.f11 ord11 live11 .nil) 12 Tryz.f12 ord12 live12 (.node .nil 13 Tryz.f13 ord13 live13 .nil)) 14 Tryz.f14 ord14 live14 (.node (.node .nil 15 Tryz.f15 ord15 live15 .nil) 16 Tryz.f16 ord16 live16 (.node .nil 17 Tryz.f17 ord17 live17 .nil)))) 18 Tryz.f18 ord18 live18 (.node (.node (.node (.node (.node .nil 19 Tryz.f19 ord19 live19 .nil) 20 Tryz.f20 ord20 live20 .nil) 21 Tryz.f21 ord21 live21 (.node .nil 22 Tryz.f22 ord22 live22 .nil)) 23 Tryz.f23 ord23 live23 (.node (.node .nil 24 Tryz.f24 ord24 live24 .nil) 25 Tryz.f25 ord25 live25 (.node .nil 26 Tryz.f26 ord26 live26 .nil))) 27 Tryz.f27 ord27 live27 (.node (.node (.node .nil 28 Tryz.f28 ord28 live28 .nil) 29 Tryz.f29 ord29 live29 (.node .nil 30 Tryz.f30 ord30 live30 .nil)) 31 Tryz.f31 ord31 live31 (.node (.node .nil 32 Tryz.f32 ord32 live32 .nil) 33 Tryz.f33 ord33 live33 (.node .nil 34 Tryz.f34 ord34 live34 .nil))))) 35 Tryz.f35 ord35 live35 (.node (.node (.node (.node (.node (.node .nil 36 Tryz.f36 ord36 live36 .nil) 37 Tryz.f37 ord37 live37 .nil) 38 Tryz.f38 ord38 live38 (.node .nil 39 Tryz.f39 ord39 live39 .nil)) 40 Tryz.f40 ord40 live40 (.node (.node .nil 41 Tryz.f41 ord41 live41 .nil) 42 Tryz.f42 ord42 live42 (.node .nil 43 Tryz.f43 ord43 live43 .nil))) 44 Tryz.f44 ord44 live44 (.node (.node (.node .nil 45 Tryz.f45 ord45 live45 .nil) 46 Tryz.f46 ord46 live46 (.node .nil 47 Tryz.f47 ord47 live47 .nil)) 48 Tryz.f48 ord48 live48 (.node (.node .nil 49 Tryz.f49 ord49 live49 .nil) 50 Tryz.f50 ord50 live50 (.node .nil 51 Tryz.f51 ord51 live51 .nil)))) 52 Tryz.f52 ord52 live52 (.node (.node (.node (.node .nil 53 Tryz.f53 ord53 live53 .nil) 54 Tryz.f54 ord54 live54 (.node .nil 55 Tryz.f55 ord55 live55 .nil)) 56 Tryz.f56 ord56 live56 (.node (.node .nil 57 Tryz.f57 ord57 live57 .nil) 58 Tryz.f58 ord58 live58 (.node .nil 59 Tryz.f59 ord59 live59 .nil))) 60 Tryz.f60 ord60 live60 (.node (.node (.node .nil 61 Tryz.f61 ord61 live61 .nil) 62 Tryz.f62 ord62 live62 (.node .nil 63 Tryz.f63 ord63 live63 .nil)) 64 Tryz.f64 ord64 live64 (.node (.node .nil 65 Tryz.f65 ord65 live65 .nil) 66 Tryz.f66 ord66 live66 (.node .nil 67 Tryz.f67 ord67 live67 .nil)))))) 68 Tryz.f68 ord68 live68 (.node (.node (.node (.node (.node (.node (.node .nil 69 Tryz.f69 ord69 live69 .nil) 70 Tryz.f70 ord70 live70 .nil) 71 Tryz.f71 ord71 live71 (.node .nil 72 Tryz.f72 ord72 live72 .nil)) 74 Tryz.f74 ord74 live74 (.node (.node .nil 75 Tryz.f75 ord75 live75 .nil) 76 Tryz.f76 ord76 live76 (.node .nil 77 Tryz.f77 ord77 live77 .nil))) 78 Tryz.f78 ord78 live78 (.node (.node (.node .nil 79 Tryz.f79 ord79 live79 .nil) 80 Tryz.f80 ord80 live80 (.node .nil 81 Tryz.f81 ord81 live81 .nil)) 82 Tryz.f82 ord82 live82 (.node (.node .nil 83 Tryz.f83 ord83 live83 .nil) 84 Tryz.f84 ord84 live84 (.node .nil 85 Tryz.f85 ord85 live85 .nil)))) 86 Tryz.f86 ord86 live86 (.node (.node (.node (.node (.node .nil 87 Tryz.f87 ord87 live87 .nil) 88 Tryz.f88 ord88 live88 .nil) 89 Tryz.f89 ord89 live89 (.node .nil 90 Tryz.f90 ord90 live90 .nil)) 91 Tryz.f91 ord91 live91 (.node (.node .nil 92 Tryz.f92 ord92 live92 .nil) 93 Tryz.f93 ord93 live93 (.node .nil 94 Tryz.f94 ord94 live94 .nil))) 95 Tryz.f95 ord95 live95 (.node (.node (.node .nil 96 Tryz.f96 ord96 live96 .nil) 97 Tryz.f97 ord97 live97 (.node .nil 98 Tryz.f98 ord98 live98 .nil)) 99 Tryz.f99 ord99 live99 (.node (.node .nil 100 Tryz.f100 ord100 live100 .nil) 101 Tryz.f101 ord101 live101 (.node .nil 102 Tryz.f102 ord102 live102 .nil))))) 103 Tryz.f103 ord103 live103 (.node (.node (.node (.node (.node (.node .nil 104 Tryz.f104 ord104 live104 .nil) 105 Tryz.f105 ord105 live105 .nil) 106 Tryz.f106 ord106 live106 (.node .nil 107 Tryz.f107 ord107 live107 .nil)) 108 Tryz.f108 ord108 live108 (.node (.node .nil 109 Tryz.f109 ord109 live109 .nil) 110 Tryz.f110 ord110 live110 (.node .nil 111 Tryz.f111 ord111 live111 .nil))) 112 Tryz.f112 ord112 live112 (.node (.node (.node .nil 113 Tryz.f113 ord113 live113 .nil) 114 Tryz.f114 ord114 live114 (.node .nil 115 Tryz.f115 ord115 live115 .nil)) 116 Tryz.f116 ord116 live116 (.node (.node .nil 117 Tryz.f117 ord117 live117 .nil) 118 Tryz.f118 ord118 live118 (.node .nil 119 Tryz.f119 ord119 live119 .nil)))) 120 Tryz.f120 ord120 live120 (.node (.node (.node (.node .nil 121 Tryz.f121 ord121 live121 .nil) 122 Tryz.f122 ord122 live122 (.node .nil 123 Tryz.f123 ord123 live123 .nil)) 125 Tryz.f125 ord125 live125 (.node (.node .nil 126 Tryz.f126 ord126 live126 .nil) 127 Tryz.f127 ord127 live127 (.node .nil 128 Tryz.f128 ord128 live128 .nil))) 129 Tryz.f129 ord129 live129 (.node (.node (.node .nil 130 Tryz.f130 ord130 live130 .nil) 132 Tryz.f132 ord132 live132 (.node .nil 133 Tryz.f133 ord133 live133 .nil)) 134 Tryz.f134 ord134 live134 (.node (.node .nil 135 Tryz.f135 ord135 live135 .nil) 136 Tryz.f136 ord136 live136 (.node .nil 164 Tryz.f164 ord164 live164 .nil)))))))
theorem ftab_ok : FOk Tryz.prog xmoves xcaps ftab.find := FTr.ok (FTr.all_node (FTr.all_node (FTr.all_node (FTr.all_node (FTr.all_node (FTr.all_node (FTr.all_node (FTr.all_node FTr.all_nil fok2 FTr.all_nil) fok3 FTr.all_nil) fok4 (FTr.all_node FTr.all_nil fok5 FTr.all_nil)) fok6 (FTr.all_node (FTr.all_node FTr.all_nil fok7 FTr.all_nil) fok8 (FTr.all_node FTr.all_nil fok9 FTr.all_nil))) fok10 (FTr.all_node (FTr.all_node (FTr.all_node FTr.all_nil fok11 FTr.all_nil) fok12 (FTr.all_node FTr.all_nil fok13 FTr.all_nil)) fok14 (FTr.all_node (FTr.all_node FTr.all_nil fok15 FTr.all_nil) fok16 (FTr.all_node FTr.all_nil fok17 FTr.all_nil)))) fok18 (FTr.all_node (FTr.all_node (FTr.all_node (FTr.all_node (FTr.all_node FTr.all_nil fok19 FTr.all_nil) fok20 FTr.all_nil) fok21 (FTr.all_node FTr.all_nil fok22 FTr.all_nil)) fok23 (FTr.all_node (FTr.all_node FTr.all_nil fok24 FTr.all_nil) fok25 (FTr.all_node FTr.all_nil fok26 FTr.all_nil))) fok27 (FTr.all_node (FTr.all_node (FTr.all_node FTr.all_nil fok28 FTr.all_nil) fok29 (FTr.all_node FTr.all_nil fok30 FTr.all_nil)) fok31 (FTr.all_node (FTr.all_node FTr.all_nil fok32 FTr.all_nil) fok33 (FTr.all_node FTr.all_nil fok34 FTr.all_nil))))) fok35 (FTr.all_node (FTr.all_node (FTr.all_node (FTr.all_node (FTr.all_node (FTr.all_node FTr.all_nil fok36 FTr.all_nil) fok37 FTr.all_nil) fok38 (FTr.all_node FTr.all_nil fok39 FTr.all_nil)) fok40 (FTr.all_node (FTr.all_node FTr.all_nil fok41 FTr.all_nil) fok42 (FTr.all_node FTr.all_nil fok43 FTr.all_nil))) fok44 (FTr.all_node (FTr.all_node (FTr.all_node FTr.all_nil fok45 FTr.all_nil) fok46 (FTr.all_node FTr.all_nil fok47 FTr.all_nil)) fok48 (FTr.all_node (FTr.all_node FTr.all_nil fok49 FTr.all_nil) fok50 (FTr.all_node FTr.all_nil fok51 FTr.all_nil)))) fok52 (FTr.all_node (FTr.all_node (FTr.all_node (FTr.all_node FTr.all_nil fok53 FTr.all_nil) fok54 (FTr.all_node FTr.all_nil fok55 FTr.all_nil)) fok56 (FTr.all_node (FTr.all_node FTr.all_nil fok57 FTr.all_nil) fok58 (FTr.all_node FTr.all_nil fok59 FTr.all_nil))) fok60 (FTr.all_node (FTr.all_node (FTr.all_node FTr.all_nil fok61 FTr.all_nil) fok62 (FTr.all_node FTr.all_nil fok63 FTr.all_nil)) fok64 (FTr.all_node (FTr.all_node FTr.all_nil fok65 FTr.all_nil) fok66 (FTr.all_node FTr.all_nil fok67 FTr.all_nil)))))) fok68 (FTr.all_node (FTr.all_node (FTr.all_node (FTr.all_node (FTr.all_node (FTr.all_node (FTr.all_node FTr.all_nil fok69 FTr.all_nil) fok70 FTr.all_nil) fok71 (FTr.all_node FTr.all_nil fok72 FTr.all_nil)) fok74 (FTr.all_node (FTr.all_node FTr.all_nil fok75 FTr.all_nil) fok76 (FTr.all_node FTr.all_nil fok77 FTr.all_nil))) fok78 (FTr.all_node (FTr.all_node (FTr.all_node FTr.all_nil fok79 FTr.all_nil) fok80 (FTr.all_node FTr.all_nil fok81 FTr.all_nil)) fok82 (FTr.all_node (FTr.all_node FTr.all_nil fok83 FTr.all_nil) fok84 (FTr.all_node FTr.all_nil fok85 FTr.all_nil)))) fok86 (FTr.all_node (FTr.all_node (FTr.all_node (FTr.all_node (FTr.all_node FTr.all_nil fok87 FTr.all_nil) fok88 FTr.all_nil) fok89 (FTr.all_node FTr.all_nil fok90 FTr.all_nil)) fok91 (FTr.all_node (FTr.all_node FTr.all_nil fok92 FTr.all_nil) fok93 (FTr.all_node FTr.all_nil fok94 FTr.all_nil))) fok95 (FTr.all_node (FTr.all_node (FTr.all_node FTr.all_nil fok96 FTr.all_nil) fok97 (FTr.all_node FTr.all_nil fok98 FTr.all_nil)) fok99 (FTr.all_node (FTr.all_node FTr.all_nil fok100 FTr.all_nil) fok101 (FTr.all_node FTr.all_nil fok102 FTr.all_nil))))) fok103 (FTr.all_node (FTr.all_node (FTr.all_node (FTr.all_node (FTr.all_node (FTr.all_node FTr.all_nil fok104 FTr.all_nil) fok105 FTr.all_nil) fok106 (FTr.all_node FTr.all_nil fok107 FTr.all_nil)) fok108 (FTr.all_node (FTr.all_node FTr.all_nil fok109 FTr.all_nil) fok110 (FTr.all_node FTr.all_nil fok111 FTr.all_nil))) fok112 (FTr.all_node (FTr.all_node (FTr.all_node FTr.all_nil fok113 FTr.all_nil) fok114 (FTr.all_node FTr.all_nil fok115 FTr.all_nil)) fok116 (FTr.all_node (FTr.all_node FTr.all_nil fok117 FTr.all_nil) fok118 (FTr.all_node FTr.all_nil fok119 FTr.all_nil)))) fok120 (FTr.all_node (FTr.all_node (FTr.all_node (FTr.all_node FTr.all_nil fok121 FTr.all_nil) fok122 (FTr.all_node FTr.all_nil fok123 FTr.all_nil)) fok125 (FTr.all_node (FTr.all_node FTr.all_nil fok126 FTr.all_nil) fok127 (FTr.all_node FTr.all_nil fok128 FTr.all_nil))) fok129 (FTr.all_node (FTr.all_node (FTr.all_node FTr.all_nil fok130 FTr.all_nil) fok132 (FTr.all_node FTr.all_nil fok133 FTr.all_nil)) fok134 (FTr.all_node (FTr.all_node FTr.all_nil fok135 FTr.all_nil) fok136 (FTr.all_node FTr.all_nil fok164 FTr.all_nil)))))))
end Go.Proofs.YtiopfepnbbepdaaGreatDoor
