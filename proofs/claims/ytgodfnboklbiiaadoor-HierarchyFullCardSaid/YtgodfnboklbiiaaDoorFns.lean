/- The table of functions, for code that is run to its end. Made by genx.py. -/
import Derived.Test.YtgodfnboklbiiaaDoorEnv
import Derived.Test.YtgodfnboklbiiaaDoorTpFrun2
namespace Go.Proofs.YtgodfnboklbiiaaDoor
open Go.Tp
set_option maxRecDepth 100000

def xmoves : FuncId → Bool := fun f => match f with | 72 => true | _ => false
def xcaps : FuncId → Bool := fun _ => false
def ord3 : Nat → RHint := fun _ => default
def live3 : Nat → Nat := fun n => match n with | 0 => 1 | 1 => 9 | 2 => 8201 | 3 => 4 | 4 => 24 | 5 => 56 | 6 => 524344 | 7 => 56 | 8 => 120 | 9 => 16777336 | 10 => 120 | 11 => 4294967352 | 12 => 4 | 13 => 4 | _ => 0
theorem fok3 : fnOkX Tryd.prog xmoves xcaps 3 Tryd.f3 ord3 := fnOkX_mk Tryd.func3 (by kernel_rfl)
def ord4 : Nat → RHint := fun _ => default
def live4 : Nat → Nat := fun n => match n with | 0 => 0 | 1 => 2 | 2 => 898 | 3 => 1922 | 4 => 906 | 5 => 898 | 6 => 898 | 7 => 1 | _ => 0
theorem fok4 : fnOkX Tryd.prog xmoves xcaps 4 Tryd.f4 ord4 := fnOkX_mk Tryd.func4 (by kernel_rfl)
def ord5 : Nat → RHint := fun n => match n with | 5 => ⟨[(0, false), (1, false), (2, false), (3, true), (4, false), (5, true), (6, true), (7, false), (8, false), (9, false), (10, true), (11, false), (12, false), (13, false)], none, [], [14]⟩ | _ => default
def live5 : Nat → Nat := fun n => match n with | 0 => 0 | 1 => 2 | 2 => 2097154 | 3 => 1 | 4 => 14 | 5 => 1 | _ => 0
theorem fok5 : fnOkX Tryd.prog xmoves xcaps 5 Tryd.f5 ord5 := fnOkX_mk Tryd.func5 (by kernel_rfl)
def ord6 : Nat → RHint := fun _ => default
def live6 : Nat → Nat := fun n => match n with | 0 => 3 | 1 => 3 | 2 => 515 | 3 => 1 | 4 => 16 | _ => 0
theorem fok6 : fnOkX Tryd.prog xmoves xcaps 6 Tryd.f6 ord6 := fnOkX_mk Tryd.func6 (by kernel_rfl)
def ord7 : Nat → RHint := fun n => match n with | 14 => ⟨[(0, false), (1, false), (2, true), (3, true)], none, [], []⟩ | _ => default
def live7 : Nat → Nat := fun n => match n with | 0 => 12 | 1 => 108 | 2 => 65644 | 3 => 16 | 4 => 1048684 | 5 => 16 | 6 => 1073741900 | 7 => 16 | 8 => 137438953484 | 9 => 16 | 10 => 549755813900 | 11 => 16 | 12 => 70368744177676 | 13 => 16 | 14 => 12 | 15 => 576460752303423500 | 16 => 0 | 17 => 16 | 18 => 140 | 19 => 151115727451828646838276 | 20 => 0 | 21 => 16 | 22 => 16 | _ => 0
theorem fok7 : fnOkX Tryd.prog xmoves xcaps 7 Tryd.f7 ord7 := fnOkX_mk Tryd.func7 (by kernel_rfl)
def ord8 : Nat → RHint := fun _ => default
def live8 : Nat → Nat := fun n => match n with | 0 => 1 | 1 => 17 | 2 => 4 | 3 => 4 | _ => 0
theorem fok8 : fnOkX Tryd.prog xmoves xcaps 8 Tryd.f8 ord8 := fnOkX_mk Tryd.func8 (by kernel_rfl)
def ord9 : Nat → RHint := fun _ => default
def live9 : Nat → Nat := fun n => match n with | 0 => 1 | 1 => 9 | 2 => 3592 | 3 => 7688 | 4 => 3624 | 5 => 3592 | 6 => 3592 | 7 => 4 | _ => 0
theorem fok9 : fnOkX Tryd.prog xmoves xcaps 9 Tryd.f9 ord9 := fnOkX_mk Tryd.func9 (by kernel_rfl)
def ord10 : Nat → RHint := fun n => match n with | 1 => ⟨[(0, false), (1, false), (2, false), (3, false), (4, false), (5, false), (6, false), (7, false), (8, false), (9, false), (10, false)], none, [], [11]⟩ | 2 => ⟨[(0, false), (1, false), (2, false), (3, false), (4, false), (5, false), (6, false), (7, true), (8, false), (9, false)], none, [4], [10]⟩ | _ => default
def live10 : Nat → Nat := fun n => match n with | 0 => 9 | 1 => 9 | 2 => 0 | _ => 0
theorem fok10 : fnOkX Tryd.prog xmoves xcaps 10 Tryd.f10 ord10 := fnOkX_mk Tryd.func10 (by kernel_rfl)
def ord11 : Nat → RHint := fun _ => default
def live11 : Nat → Nat := fun n => match n with | 0 => 19 | 1 => 16 | _ => 0
theorem fok11 : fnOkX Tryd.prog xmoves xcaps 11 Tryd.f11 ord11 := fnOkX_mk Tryd.func11 (by kernel_rfl)
def ord12 : Nat → RHint := fun _ => default
def live12 : Nat → Nat := fun n => match n with | 0 => 5 | 1 => 4 | _ => 0
theorem fok12 : fnOkX Tryd.prog xmoves xcaps 12 Tryd.f12 ord12 := fnOkX_mk Tryd.func12 (by kernel_rfl)
def ord13 : Nat → RHint := fun _ => default
def live13 : Nat → Nat := fun n => match n with | 0 => 85 | 1 => 4181 | 2 => 65621 | 3 => 192 | 4 => 4194389 | 5 => 341 | 6 => 85 | 7 => 192 | _ => 0
theorem fok13 : fnOkX Tryd.prog xmoves xcaps 13 Tryd.f13 ord13 := fnOkX_mk Tryd.func13 (by kernel_rfl)
def ord14 : Nat → RHint := fun _ => default
def live14 : Nat → Nat := fun n => match n with | 0 => 12 | 1 => 16 | _ => 0
theorem fok14 : fnOkX Tryd.prog xmoves xcaps 14 Tryd.f14 ord14 := fnOkX_mk Tryd.func14 (by kernel_rfl)
def ord15 : Nat → RHint := fun _ => default
def live15 : Nat → Nat := fun n => match n with | 0 => 19 | 1 => 209 | 2 => 262225 | 3 => 48 | 4 => 48 | _ => 0
theorem fok15 : fnOkX Tryd.prog xmoves xcaps 15 Tryd.f15 ord15 := fnOkX_mk Tryd.func15 (by kernel_rfl)
def ord16 : Nat → RHint := fun _ => default
def live16 : Nat → Nat := fun n => match n with | 0 => 2 | 1 => 2147483650 | 2 => 4 | 3 => 562949953421314 | 4 => 4 | 5 => 10 | 6 => 31525197391593482 | 7 => 67553994410557450 | 8 => 31525197391593514 | 9 => 37778963388154553303082 | 10 => 4 | 11 => 31525197391593482 | 12 => 31525197391593482 | 13 => 4 | _ => 0
theorem fok16 : fnOkX Tryd.prog xmoves xcaps 16 Tryd.f16 ord16 := fnOkX_mk Tryd.func16 (by kernel_rfl)
def ord17 : Nat → RHint := fun _ => default
def live17 : Nat → Nat := fun n => match n with | 0 => 12 | 1 => 44 | 2 => 16 | _ => 0
theorem fok17 : fnOkX Tryd.prog xmoves xcaps 17 Tryd.f17 ord17 := fnOkX_mk Tryd.func17 (by kernel_rfl)
def ord18 : Nat → RHint := fun _ => default
def live18 : Nat → Nat := fun n => match n with | 0 => 12 | 1 => 8204 | 2 => 16 | 3 => 16 | _ => 0
theorem fok18 : fnOkX Tryd.prog xmoves xcaps 18 Tryd.f18 ord18 := fnOkX_mk Tryd.func18 (by kernel_rfl)
def ord19 : Nat → RHint := fun n => match n with | 7 => ⟨[(0, false), (1, false), (2, false), (3, false), (4, false), (5, false), (6, true), (7, false), (8, false), (9, true), (10, false)], none, [1], [11]⟩ | _ => default
def live19 : Nat → Nat := fun n => match n with | 0 => 6 | 1 => 14 | 2 => 14 | 3 => 14 | 4 => 57356 | 5 => 122892 | 6 => 57388 | 7 => 57356 | 8 => 57356 | 9 => 4 | _ => 0
theorem fok19 : fnOkX Tryd.prog xmoves xcaps 19 Tryd.f19 ord19 := fnOkX_mk Tryd.func19 (by kernel_rfl)
def ord20 : Nat → RHint := fun _ => default
def live20 : Nat → Nat := fun n => match n with | 0 => 3 | 1 => 16 | _ => 0
theorem fok20 : fnOkX Tryd.prog xmoves xcaps 20 Tryd.f20 ord20 := fnOkX_mk Tryd.func20 (by kernel_rfl)
def ord21 : Nat → RHint := fun _ => default
def live21 : Nat → Nat := fun n => match n with | 0 => 6 | 1 => 8 | _ => 0
theorem fok21 : fnOkX Tryd.prog xmoves xcaps 21 Tryd.f21 ord21 := fnOkX_mk Tryd.func21 (by kernel_rfl)
def ord22 : Nat → RHint := fun n => match n with | 1 => ⟨[(0, false), (1, false), (2, false), (3, false), (4, false), (5, false), (6, false), (7, false), (8, false), (9, false), (10, false), (11, false)], none, [], [12]⟩ | _ => default
def live22 : Nat → Nat := fun n => match n with | 0 => 5 | 1 => 5 | 2 => 0 | _ => 0
theorem fok22 : fnOkX Tryd.prog xmoves xcaps 22 Tryd.f22 ord22 := fnOkX_mk Tryd.func22 (by kernel_rfl)
def ord23 : Nat → RHint := fun _ => default
def live23 : Nat → Nat := fun n => match n with | 0 => 1 | 1 => 9 | 2 => 2057 | 3 => 4 | 4 => 4 | _ => 0
theorem fok23 : fnOkX Tryd.prog xmoves xcaps 23 Tryd.f23 ord23 := fnOkX_mk Tryd.func23 (by kernel_rfl)
def ord24 : Nat → RHint := fun _ => default
def live24 : Nat → Nat := fun n => match n with | 0 => 6 | 1 => 4 | _ => 0
theorem fok24 : fnOkX Tryd.prog xmoves xcaps 24 Tryd.f24 ord24 := fnOkX_mk Tryd.func24 (by kernel_rfl)
def ord25 : Nat → RHint := fun _ => default
def live25 : Nat → Nat := fun n => match n with | 0 => 9 | 1 => 104 | 2 => 16 | _ => 0
theorem fok25 : fnOkX Tryd.prog xmoves xcaps 25 Tryd.f25 ord25 := fnOkX_mk Tryd.func25 (by kernel_rfl)
def ord26 : Nat → RHint := fun _ => default
def live26 : Nat → Nat := fun n => match n with | 0 => 28 | 1 => 16 | _ => 0
theorem fok26 : fnOkX Tryd.prog xmoves xcaps 26 Tryd.f26 ord26 := fnOkX_mk Tryd.func26 (by kernel_rfl)
def ord27 : Nat → RHint := fun n => match n with | 12 => ⟨[(0, false), (1, false), (2, false), (3, false), (4, false), (5, false), (6, false), (7, false), (8, false), (9, false), (10, true)], none, [], [11]⟩ | _ => default
def live27 : Nat → Nat := fun n => match n with | 0 => 12 | 1 => 140 | 2 => 16 | 3 => 524300 | 4 => 16 | 5 => 2147483660 | 6 => 16 | 7 => 8796093022220 | 8 => 16 | 9 => 44 | 10 => 9223372036854775852 | 11 => 44 | 12 => 108 | 13 => 302231454903657293676652 | 14 => 16 | 15 => 16 | _ => 0
theorem fok27 : fnOkX Tryd.prog xmoves xcaps 27 Tryd.f27 ord27 := fnOkX_mk Tryd.func27 (by kernel_rfl)
def ord28 : Nat → RHint := fun _ => default
def live28 : Nat → Nat := fun n => match n with | 0 => 1 | 1 => 4 | _ => 0
theorem fok28 : fnOkX Tryd.prog xmoves xcaps 28 Tryd.f28 ord28 := fnOkX_mk Tryd.func28 (by kernel_rfl)
def ord29 : Nat → RHint := fun _ => default
def live29 : Nat → Nat := fun n => match n with | 0 => 3 | 1 => 16 | _ => 0
theorem fok29 : fnOkX Tryd.prog xmoves xcaps 29 Tryd.f29 ord29 := fnOkX_mk Tryd.func29 (by kernel_rfl)
def ord30 : Nat → RHint := fun _ => default
def live30 : Nat → Nat := fun n => match n with | 0 => 12 | 1 => 16 | _ => 0
theorem fok30 : fnOkX Tryd.prog xmoves xcaps 30 Tryd.f30 ord30 := fnOkX_mk Tryd.func30 (by kernel_rfl)
def ord31 : Nat → RHint := fun _ => default
def live31 : Nat → Nat := fun n => match n with | 0 => 12 | 1 => 16 | _ => 0
theorem fok31 : fnOkX Tryd.prog xmoves xcaps 31 Tryd.f31 ord31 := fnOkX_mk Tryd.func31 (by kernel_rfl)
def ord32 : Nat → RHint := fun _ => default
def live32 : Nat → Nat := fun n => match n with | 0 => 12 | 1 => 16 | _ => 0
theorem fok32 : fnOkX Tryd.prog xmoves xcaps 32 Tryd.f32 ord32 := fnOkX_mk Tryd.func32 (by kernel_rfl)
def ord33 : Nat → RHint := fun _ => default
def live33 : Nat → Nat := fun n => match n with | 0 => 7 | 1 => 16391 | 2 => 64 | 3 => 229382 | 4 => 491526 | 5 => 229766 | 6 => 230150 | 7 => 1073971206 | 8 => 64 | 9 => 229382 | 10 => 64 | _ => 0
theorem fok33 : fnOkX Tryd.prog xmoves xcaps 33 Tryd.f33 ord33 := fnOkX_mk Tryd.func33 (by kernel_rfl)
def ord34 : Nat → RHint := fun _ => default
def live34 : Nat → Nat := fun n => match n with | 0 => 3 | 1 => 16 | _ => 0
theorem fok34 : fnOkX Tryd.prog xmoves xcaps 34 Tryd.f34 ord34 := fnOkX_mk Tryd.func34 (by kernel_rfl)
def ord35 : Nat → RHint := fun _ => default
def live35 : Nat → Nat := fun n => match n with | 0 => 6 | 1 => 8 | _ => 0
theorem fok35 : fnOkX Tryd.prog xmoves xcaps 35 Tryd.f35 ord35 := fnOkX_mk Tryd.func35 (by kernel_rfl)
def ord36 : Nat → RHint := fun _ => default
def live36 : Nat → Nat := fun n => match n with | 0 => 3 | 1 => 387 | 2 => 899 | 3 => 419 | 4 => 65955 | 5 => 16 | 6 => 387 | 7 => 16 | _ => 0
theorem fok36 : fnOkX Tryd.prog xmoves xcaps 36 Tryd.f36 ord36 := fnOkX_mk Tryd.func36 (by kernel_rfl)
def ord37 : Nat → RHint := fun n => match n with | 11 => ⟨[(0, false), (1, false), (2, false), (3, false), (4, false), (5, false), (8, false), (6, true), (7, false), (9, true), (10, false), (11, true), (12, false)], none, [1], [13]⟩ | _ => default
def live37 : Nat → Nat := fun n => match n with | 0 => 78 | 1 => 206 | 2 => 206 | 3 => 65742 | 4 => 974 | 5 => 67109838 | 6 => 64 | 7 => 206 | 8 => 120259084494 | 9 => 257698037966 | 10 => 120259087566 | 11 => 120259084494 | 12 => 120259084494 | 13 => 64 | _ => 0
theorem fok37 : fnOkX Tryd.prog xmoves xcaps 37 Tryd.f37 ord37 := fnOkX_mk Tryd.func37 (by kernel_rfl)
def ord38 : Nat → RHint := fun _ => default
def live38 : Nat → Nat := fun n => match n with | 0 => 7 | 1 => 135 | 2 => 524421 | 3 => 96 | 4 => 96 | _ => 0
theorem fok38 : fnOkX Tryd.prog xmoves xcaps 38 Tryd.f38 ord38 := fnOkX_mk Tryd.func38 (by kernel_rfl)
def ord39 : Nat → RHint := fun _ => default
def live39 : Nat → Nat := fun n => match n with | 0 => 1 | 1 => 8 | 2 => 4 | 3 => 4 | _ => 0
theorem fok39 : fnOkX Tryd.prog xmoves xcaps 39 Tryd.f39 ord39 := fnOkX_mk Tryd.func39 (by kernel_rfl)
def ord40 : Nat → RHint := fun _ => default
def live40 : Nat → Nat := fun n => match n with | 0 => 1 | 1 => 4 | _ => 0
theorem fok40 : fnOkX Tryd.prog xmoves xcaps 40 Tryd.f40 ord40 := fnOkX_mk Tryd.func40 (by kernel_rfl)
def ord41 : Nat → RHint := fun _ => default
def live41 : Nat → Nat := fun n => match n with | 0 => 3 | 1 => 35 | 2 => 547 | 3 => 35 | 4 => 131107 | 5 => 16 | 6 => 16 | _ => 0
theorem fok41 : fnOkX Tryd.prog xmoves xcaps 41 Tryd.f41 ord41 := fnOkX_mk Tryd.func41 (by kernel_rfl)
def ord42 : Nat → RHint := fun _ => default
def live42 : Nat → Nat := fun n => match n with | 0 => 1 | 1 => 4 | _ => 0
theorem fok42 : fnOkX Tryd.prog xmoves xcaps 42 Tryd.f42 ord42 := fnOkX_mk Tryd.func42 (by kernel_rfl)
def ord43 : Nat → RHint := fun _ => default
def live43 : Nat → Nat := fun n => match n with | 0 => 1 | 1 => 4 | _ => 0
theorem fok43 : fnOkX Tryd.prog xmoves xcaps 43 Tryd.f43 ord43 := fnOkX_mk Tryd.func43 (by kernel_rfl)
def ord44 : Nat → RHint := fun _ => default
def live44 : Nat → Nat := fun n => match n with | 0 => 3 | 1 => 387 | 2 => 899 | 3 => 419 | 4 => 65955 | 5 => 16 | 6 => 387 | 7 => 16 | _ => 0
theorem fok44 : fnOkX Tryd.prog xmoves xcaps 44 Tryd.f44 ord44 := fnOkX_mk Tryd.func44 (by kernel_rfl)
def ord45 : Nat → RHint := fun _ => default
def live45 : Nat → Nat := fun n => match n with | 0 => 2 | 1 => 10 | 2 => 4 | 3 => 4096 | 4 => 4 | 5 => 4 | _ => 0
theorem fok45 : fnOkX Tryd.prog xmoves xcaps 45 Tryd.f45 ord45 := fnOkX_mk Tryd.func45 (by kernel_rfl)
def ord46 : Nat → RHint := fun _ => default
def live46 : Nat → Nat := fun n => match n with | 0 => 2 | 1 => 4 | _ => 0
theorem fok46 : fnOkX Tryd.prog xmoves xcaps 46 Tryd.f46 ord46 := fnOkX_mk Tryd.func46 (by kernel_rfl)
def ord47 : Nat → RHint := fun _ => default
def live47 : Nat → Nat := fun n => match n with | 0 => 3 | 1 => 16 | _ => 0
theorem fok47 : fnOkX Tryd.prog xmoves xcaps 47 Tryd.f47 ord47 := fnOkX_mk Tryd.func47 (by kernel_rfl)
def ord48 : Nat → RHint := fun _ => default
def live48 : Nat → Nat := fun n => match n with | 0 => 2 | 1 => 10 | 2 => 8 | 3 => 4 | _ => 0
theorem fok48 : fnOkX Tryd.prog xmoves xcaps 48 Tryd.f48 ord48 := fnOkX_mk Tryd.func48 (by kernel_rfl)
def ord49 : Nat → RHint := fun _ => default
def live49 : Nat → Nat := fun n => match n with | 0 => 3 | 1 => 8 | _ => 0
theorem fok49 : fnOkX Tryd.prog xmoves xcaps 49 Tryd.f49 ord49 := fnOkX_mk Tryd.func49 (by kernel_rfl)
def ord50 : Nat → RHint := fun n => match n with | 1 => ⟨[(0, false), (1, false), (2, false), (3, false), (5, false), (6, false), (7, false), (8, false), (10, false), (11, false), (12, false), (13, false), (15, false), (16, false), (17, false), (18, false), (19, false), (20, false), (4, true), (9, true), (14, true), (21, true), (22, false), (23, true)], none, [], [24]⟩ | 5 => ⟨[(0, false), (1, false), (2, false), (3, false), (4, false), (5, false), (6, false), (7, false), (8, false), (9, false), (10, true)], none, [], [11]⟩ | _ => default
def live50 : Nat → Nat := fun n => match n with | 0 => 12 | 1 => 44 | 2 => 108 | 3 => 549755813996 | 4 => 108 | 5 => 108 | 6 => 16 | _ => 0
theorem fok50 : fnOkX Tryd.prog xmoves xcaps 50 Tryd.f50 ord50 := fnOkX_mk Tryd.func50 (by kernel_rfl)
def ord51 : Nat → RHint := fun _ => default
def live51 : Nat → Nat := fun n => match n with | 0 => 3 | 1 => 387 | 2 => 899 | 3 => 419 | 4 => 65955 | 5 => 16 | 6 => 387 | 7 => 16 | _ => 0
theorem fok51 : fnOkX Tryd.prog xmoves xcaps 51 Tryd.f51 ord51 := fnOkX_mk Tryd.func51 (by kernel_rfl)
def ord52 : Nat → RHint := fun n => match n with | 6 => ⟨[(0, false), (1, false), (2, false), (3, true), (4, false), (5, true), (6, false)], none, [1], [7]⟩ | _ => default
def live52 : Nat → Nat := fun n => match n with | 0 => 6 | 1 => 14 | 2 => 14 | 3 => 3596 | 4 => 7692 | 5 => 3628 | 6 => 3596 | 7 => 3596 | 8 => 4 | _ => 0
theorem fok52 : fnOkX Tryd.prog xmoves xcaps 52 Tryd.f52 ord52 := fnOkX_mk Tryd.func52 (by kernel_rfl)
def ord53 : Nat → RHint := fun _ => default
def live53 : Nat → Nat := fun n => match n with | 0 => 6 | 1 => 2048 | 2 => 16 | 3 => 16 | _ => 0
theorem fok53 : fnOkX Tryd.prog xmoves xcaps 53 Tryd.f53 ord53 := fnOkX_mk Tryd.func53 (by kernel_rfl)
def ord54 : Nat → RHint := fun _ => default
def live54 : Nat → Nat := fun n => match n with | 0 => 1 | 1 => 4 | _ => 0
theorem fok54 : fnOkX Tryd.prog xmoves xcaps 54 Tryd.f54 ord54 := fnOkX_mk Tryd.func54 (by kernel_rfl)
def ord55 : Nat → RHint := fun _ => default
def live55 : Nat → Nat := fun n => match n with | 0 => 2 | 1 => 10 | 2 => 904 | 3 => 1928 | 4 => 936 | 5 => 904 | 6 => 904 | 7 => 4 | _ => 0
theorem fok55 : fnOkX Tryd.prog xmoves xcaps 55 Tryd.f55 ord55 := fnOkX_mk Tryd.func55 (by kernel_rfl)
def ord56 : Nat → RHint := fun _ => default
def live56 : Nat → Nat := fun n => match n with | 0 => 2 | 1 => 10 | 2 => 904 | 3 => 1928 | 4 => 936 | 5 => 904 | 6 => 904 | 7 => 4 | _ => 0
theorem fok56 : fnOkX Tryd.prog xmoves xcaps 56 Tryd.f56 ord56 := fnOkX_mk Tryd.func56 (by kernel_rfl)
def ord57 : Nat → RHint := fun _ => default
def live57 : Nat → Nat := fun n => match n with | 0 => 2 | 1 => 4 | _ => 0
theorem fok57 : fnOkX Tryd.prog xmoves xcaps 57 Tryd.f57 ord57 := fnOkX_mk Tryd.func57 (by kernel_rfl)
def ord58 : Nat → RHint := fun n => match n with | 6 => ⟨[(0, false), (1, false), (2, false), (3, false), (4, true), (5, false), (6, true), (7, false)], none, [], []⟩ | _ => default
def live58 : Nat → Nat := fun n => match n with | 0 => 6 | 1 => 32774 | 2 => 16 | 3 => 917510 | 4 => 1966086 | 5 => 917606 | 6 => 2148401158 | 7 => 16 | 8 => 917510 | 9 => 16 | _ => 0
theorem fok58 : fnOkX Tryd.prog xmoves xcaps 58 Tryd.f58 ord58 := fnOkX_mk Tryd.func58 (by kernel_rfl)
def ord59 : Nat → RHint := fun _ => default
def live59 : Nat → Nat := fun n => match n with | 0 => 2 | 1 => 4 | _ => 0
theorem fok59 : fnOkX Tryd.prog xmoves xcaps 59 Tryd.f59 ord59 := fnOkX_mk Tryd.func59 (by kernel_rfl)
def ord60 : Nat → RHint := fun _ => default
def live60 : Nat → Nat := fun n => match n with | 0 => 3 | 1 => 387 | 2 => 899 | 3 => 419 | 4 => 65955 | 5 => 16 | 6 => 387 | 7 => 16 | _ => 0
theorem fok60 : fnOkX Tryd.prog xmoves xcaps 60 Tryd.f60 ord60 := fnOkX_mk Tryd.func60 (by kernel_rfl)
def ord61 : Nat → RHint := fun n => match n with | 6 => ⟨[(0, false), (1, false), (2, false), (3, false), (6, false), (4, true), (5, false), (7, true)], none, [], []⟩ | _ => default
def live61 : Nat → Nat := fun n => match n with | 0 => 14 | 1 => 65550 | 2 => 14 | 3 => 117440526 | 4 => 251658254 | 5 => 117440718 | 6 => 117440526 | 7 => 117440526 | _ => 0
theorem fok61 : fnOkX Tryd.prog xmoves xcaps 61 Tryd.f61 ord61 := fnOkX_mk Tryd.func61 (by kernel_rfl)
def ord62 : Nat → RHint := fun _ => default
def live62 : Nat → Nat := fun n => match n with | 0 => 1 | 1 => 9 | 2 => 456 | 3 => 968 | 4 => 488 | 5 => 16872 | 6 => 4 | 7 => 456 | 8 => 4 | _ => 0
theorem fok62 : fnOkX Tryd.prog xmoves xcaps 62 Tryd.f62 ord62 := fnOkX_mk Tryd.func62 (by kernel_rfl)
def ord63 : Nat → RHint := fun _ => default
def live63 : Nat → Nat := fun n => match n with | 0 => 3 | 1 => 35 | 2 => 99 | 3 => 2115 | 4 => 4096 | 5 => 16 | 6 => 16 | 7 => 8195 | 8 => 16 | 9 => 65539 | 10 => 16 | 11 => 524288 | 12 => 16 | 13 => 16 | _ => 0
theorem fok63 : fnOkX Tryd.prog xmoves xcaps 63 Tryd.f63 ord63 := fnOkX_mk Tryd.func63 (by kernel_rfl)
def ord64 : Nat → RHint := fun _ => default
def live64 : Nat → Nat := fun n => match n with | 0 => 3 | 1 => 35 | 2 => 99 | 3 => 2115 | 4 => 4096 | 5 => 16 | 6 => 16 | 7 => 8195 | 8 => 16 | 9 => 65539 | 10 => 16 | 11 => 524288 | 12 => 16 | 13 => 16 | _ => 0
theorem fok64 : fnOkX Tryd.prog xmoves xcaps 64 Tryd.f64 ord64 := fnOkX_mk Tryd.func64 (by kernel_rfl)
def ord65 : Nat → RHint := fun _ => default
def live65 : Nat → Nat := fun n => match n with | 0 => 2 | 1 => 1048578 | 2 => 4 | 3 => 4194306 | 4 => 12582914 | 5 => 12582914 | 6 => 4 | 7 => 1077936130 | 8 => 4 | 9 => 4503599631564802 | 10 => 4 | 11 => 288230376155906050 | 12 => 4 | 13 => 18446744073713745922 | 14 => 4 | 15 => 1208925819614629174706178 | 16 => 4 | 17 => 4 | _ => 0
theorem fok65 : fnOkX Tryd.prog xmoves xcaps 65 Tryd.f65 ord65 := fnOkX_mk Tryd.func65 (by kernel_rfl)
def ord66 : Nat → RHint := fun _ => default
def live66 : Nat → Nat := fun n => match n with | 0 => 2 | 1 => 4 | _ => 0
theorem fok66 : fnOkX Tryd.prog xmoves xcaps 66 Tryd.f66 ord66 := fnOkX_mk Tryd.func66 (by kernel_rfl)
def ord67 : Nat → RHint := fun _ => default
def live67 : Nat → Nat := fun n => match n with | 0 => 2 | 1 => 4 | _ => 0
theorem fok67 : fnOkX Tryd.prog xmoves xcaps 67 Tryd.f67 ord67 := fnOkX_mk Tryd.func67 (by kernel_rfl)
def ord68 : Nat → RHint := fun _ => default
def live68 : Nat → Nat := fun n => match n with | 0 => 51 | 1 => 65555 | 2 => 0 | _ => 0
theorem fok68 : fnOkX Tryd.prog xmoves xcaps 68 Tryd.f68 ord68 := fnOkX_mk Tryd.func68 (by kernel_rfl)
def ord69 : Nat → RHint := fun _ => default
def live69 : Nat → Nat := fun n => match n with | 0 => 1 | 1 => 4 | _ => 0
theorem fok69 : fnOkX Tryd.prog xmoves xcaps 69 Tryd.f69 ord69 := fnOkX_mk Tryd.func69 (by kernel_rfl)
def ord70 : Nat → RHint := fun _ => default
def live70 : Nat → Nat := fun n => match n with | 0 => 1 | 1 => 4 | _ => 0
theorem fok70 : fnOkX Tryd.prog xmoves xcaps 70 Tryd.f70 ord70 := fnOkX_mk Tryd.func70 (by kernel_rfl)
def ord71 : Nat → RHint := fun _ => default
def live71 : Nat → Nat := fun n => match n with | 0 => 3 | 1 => 67 | 2 => 451 | 3 => 33219 | 4 => 963 | 5 => 134218691 | 6 => 451 | 7 => 451 | 8 => 48 | _ => 0
theorem fok71 : fnOkX Tryd.prog xmoves xcaps 71 Tryd.f71 ord71 := fnOkX_mk Tryd.func71 (by kernel_rfl)
def ord72 : Nat → RHint := fun n => match n with | 11 => ⟨[(0, false), (1, false), (2, false), (3, false), (4, false), (5, false), (6, false), (7, false)], none, [], [8]⟩ | 15 => ⟨[(0, false), (1, false), (2, false), (3, false), (4, false), (5, false), (6, false), (7, false)], none, [], [8]⟩ | _ => default
def live72 : Nat → Nat := fun n => match n with | 0 => 7 | 1 => 7 | 2 => 135 | 3 => 65671 | 4 => 64 | 5 => 391 | 6 => 4194695 | 7 => 64 | 8 => 2147484039 | 9 => 647 | 10 => 643 | 11 => 512 | 12 => 64 | 13 => 391 | 14 => 295147905179352826247 | 15 => 7 | 16 => 1 | 17 => 64 | 18 => 131 | 19 => 1 | 20 => 64 | _ => 0
theorem fok72 : fnOkX Tryd.prog xmoves xcaps 72 Tryd.f72 ord72 := fnOkX_mk Tryd.func72 (by kernel_rfl)
def ord73 : Nat → RHint := fun _ => default
def live73 : Nat → Nat := fun n => match n with | 0 => 3 | 1 => 16 | _ => 0
theorem fok73 : fnOkX Tryd.prog xmoves xcaps 73 Tryd.f73 ord73 := fnOkX_mk Tryd.func73 (by kernel_rfl)
def ord74 : Nat → RHint := fun _ => default
def live74 : Nat → Nat := fun n => match n with | 0 => 1 | 1 => 4 | _ => 0
theorem fok74 : fnOkX Tryd.prog xmoves xcaps 74 Tryd.f74 ord74 := fnOkX_mk Tryd.func74 (by kernel_rfl)
def ord76 : Nat → RHint := fun _ => default
def live76 : Nat → Nat := fun n => match n with | 0 => 0 | _ => 0
theorem fok76 : fnOkX Tryd.prog xmoves xcaps 76 Tryd.f76 ord76 := fnOkX_mk Tryd.func76 (by kernel_rfl)
def ord77 : Nat → RHint := fun _ => default
def live77 : Nat → Nat := fun n => match n with | 0 => 3 | 1 => 1 | 2 => 0 | _ => 0
theorem fok77 : fnOkX Tryd.prog xmoves xcaps 77 Tryd.f77 ord77 := fnOkX_mk Tryd.func77 (by kernel_rfl)
noncomputable def ftab : FTr := (.node (.node (.node (.node (.node (.node (.node .nil 3 Tryd.f3 ord3 live3 .nil) 4 Tryd.f4 ord4 live4 .nil) 5 Tryd.f5 ord5 live5 (.node .nil 6 Tryd.f6 ord6 live6 .nil)) 7 Tryd.f7 ord7 live7 (.node (.node (.node .nil 8 Tryd.f8 ord8 live8 .nil) 9 Tryd.f9 ord9 live9 .nil) 10 Tryd.f10 ord10 live10 (.node .nil 11 Tryd.f11 ord11 live11 .nil))) 12 Tryd.f12 ord12 live12 (.node (.node (.node (.node .nil 13 Tryd.f13 ord13 live13 .nil) 14 Tryd.f14 ord14 live14 .nil) 15 Tryd.f15 ord15 live15 (.node .nil 16 Tryd.f16 ord16 live16 .nil)) 17 Tryd.f17 ord17 live17 (.node (.node .nil 18 Tryd.f18 ord18 live18 .nil) 19 Tryd.f19 ord19 live19 (.node .nil 20 Tryd.f20 ord20 live20 .nil)))) 21 Tryd.f21 ord21 live21 (.node (.node (.node (.node (.node .nil 22 Tryd.f22 ord22 live22 .nil) 23 Tryd.f23 ord23 live23 .nil) 24 Tryd.f24 ord24 live24 (.node .nil 25 Tryd.f25 ord25 live25 .nil)) 26 Tryd.f26 ord26 live26 (.node (.node (.node .nil 27 Tryd.f27 ord27 live27 .nil) 28 Tryd.f28 ord28 live28 .nil) 29 Tryd.f29 ord29 live29 (.node .nil 30 Tryd.f30 ord30 live30 .nil))) 31 Tryd.f31 ord31 live31 (.node (.node (.node (.node .nil 32 Tryd.f32 ord32 live32 .nil) 33 Tryd.f33 ord33 live33 .nil) 34 Tryd.f34 ord34 live34 (.node .nil 35 Tryd.f35 ord35 live35 .nil)) 36 Tryd.f36 ord36 live36 (.node (.node .nil 37 Tryd.f37 ord37 live37 .nil) 38 Tryd.f38 ord38 live38 (.node .nil 39 Tryd.f39 ord39 live39 .nil))))) 40 Tryd.f40 ord40 live40 (.node (.node (.node (.node (.node (.node .nil 41 Tryd.f41 ord41 live41 .nil) 42 Tryd.f42 ord42 live42 .nil) 43 Tryd.f43 ord43 live43 (.node .nil 44 Tryd.f44 ord44 live44 .nil)) 45 Tryd.f45 ord45 live45 (.node (.node (.node .nil 46 Tryd.f46 ord46 live46 .nil) 47 Tryd.f47 ord47 live47 .nil) 48 Tryd.f48 ord48 live48 (.node .nil 49 Tryd.f49 ord49 live49 .nil))) 50 Tryd.f50 ord50 live50 (.node (.node (.node (.node .nil 51 Tryd.f51 ord51 live51 .nil) 52 Tryd.f52 ord52 live52 .nil) 53 Tryd.f53 ord53 live53 (.node .nil 54 Tryd.f54 ord54 live54 .nil)) 55 Tryd.f55 ord55 live55 (.node (.node .nil 56 Tryd.f56 ord56 live56 .nil) 57 Tryd.f57 ord57 live57 (.node .nil 58 Tryd.f58 ord58 live58 .nil)))) 59 Tryd.f59 ord59 live59 (.node (.node (.node (.node (.node .nil 60 Tryd.f60 ord60 live60 .nil) 61 Tryd.f61 ord61 live61 .nil) 62 Tryd.f62 ord62 live62 (.node .nil 63 Tryd.f63 ord63 live63 .nil)) 64 Tryd.f64 ord64 live64 (.node (.node .nil 65 Tryd.f65 ord65 live65 .nil) 66 Tryd.f66 ord66 live66 (.node .nil 67 Tryd.f67 ord67 live67 .nil))) 68 Tryd.f68 ord68 live68 (.node (.node (.node (.node .nil 69 Tryd.f69 ord69 live69 .nil) 70 Tryd.f70 ord70 live70 .nil) 71 Tryd.f71 ord71 live71 (.node .nil 72 Tryd.f72 ord72 live72 .nil)) 73 Tryd.f73 ord73 live73 (.node (.node .nil 74 Tryd.f74 ord74 live74 .nil) 76 Tryd.f76 ord76 live76 (.node .nil 77 Tryd.f77 ord77 live77 .nil))))))
theorem ftab_ok : FOk Tryd.prog xmoves xcaps ftab.find := FTr.ok (FTr.all_node (FTr.all_node (FTr.all_node (FTr.all_node (FTr.all_node (FTr.all_node (FTr.all_node FTr.all_nil fok3 FTr.all_nil) fok4 FTr.all_nil) fok5 (FTr.all_node FTr.all_nil fok6 FTr.all_nil)) fok7 (FTr.all_node (FTr.all_node (FTr.all_node FTr.all_nil fok8 FTr.all_nil) fok9 FTr.all_nil) fok10 (FTr.all_node FTr.all_nil fok11 FTr.all_nil))) fok12 (FTr.all_node (FTr.all_node (FTr.all_node (FTr.all_node FTr.all_nil fok13 FTr.all_nil) fok14 FTr.all_nil) fok15 (FTr.all_node FTr.all_nil fok16 FTr.all_nil)) fok17 (FTr.all_node (FTr.all_node FTr.all_nil fok18 FTr.all_nil) fok19 (FTr.all_node FTr.all_nil fok20 FTr.all_nil)))) fok21 (FTr.all_node (FTr.all_node (FTr.all_node (FTr.all_node (FTr.all_node FTr.all_nil fok22 FTr.all_nil) fok23 FTr.all_nil) fok24 (FTr.all_node FTr.all_nil fok25 FTr.all_nil)) fok26 (FTr.all_node (FTr.all_node (FTr.all_node FTr.all_nil fok27 FTr.all_nil) fok28 FTr.all_nil) fok29 (FTr.all_node FTr.all_nil fok30 FTr.all_nil))) fok31 (FTr.all_node (FTr.all_node (FTr.all_node (FTr.all_node FTr.all_nil fok32 FTr.all_nil) fok33 FTr.all_nil) fok34 (FTr.all_node FTr.all_nil fok35 FTr.all_nil)) fok36 (FTr.all_node (FTr.all_node FTr.all_nil fok37 FTr.all_nil) fok38 (FTr.all_node FTr.all_nil fok39 FTr.all_nil))))) fok40 (FTr.all_node (FTr.all_node (FTr.all_node (FTr.all_node (FTr.all_node (FTr.all_node FTr.all_nil fok41 FTr.all_nil) fok42 FTr.all_nil) fok43 (FTr.all_node FTr.all_nil fok44 FTr.all_nil)) fok45 (FTr.all_node (FTr.all_node (FTr.all_node FTr.all_nil fok46 FTr.all_nil) fok47 FTr.all_nil) fok48 (FTr.all_node FTr.all_nil fok49 FTr.all_nil))) fok50 (FTr.all_node (FTr.all_node (FTr.all_node (FTr.all_node FTr.all_nil fok51 FTr.all_nil) fok52 FTr.all_nil) fok53 (FTr.all_node FTr.all_nil fok54 FTr.all_nil)) fok55 (FTr.all_node (FTr.all_node FTr.all_nil fok56 FTr.all_nil) fok57 (FTr.all_node FTr.all_nil fok58 FTr.all_nil)))) fok59 (FTr.all_node (FTr.all_node (FTr.all_node (FTr.all_node (FTr.all_node FTr.all_nil fok60 FTr.all_nil) fok61 FTr.all_nil) fok62 (FTr.all_node FTr.all_nil fok63 FTr.all_nil)) fok64 (FTr.all_node (FTr.all_node FTr.all_nil fok65 FTr.all_nil) fok66 (FTr.all_node FTr.all_nil fok67 FTr.all_nil))) fok68 (FTr.all_node (FTr.all_node (FTr.all_node (FTr.all_node FTr.all_nil fok69 FTr.all_nil) fok70 FTr.all_nil) fok71 (FTr.all_node FTr.all_nil fok72 FTr.all_nil)) fok73 (FTr.all_node (FTr.all_node FTr.all_nil fok74 FTr.all_nil) fok76 (FTr.all_node FTr.all_nil fok77 FTr.all_nil))))))
end Go.Proofs.YtgodfnboklbiiaaDoor
