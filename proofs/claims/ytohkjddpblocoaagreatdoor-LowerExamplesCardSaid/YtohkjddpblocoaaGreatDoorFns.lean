/- The table of functions, for code that is run to its end. Made by genx2.py. -/
import Derived.Test.YtohkjddpblocoaaGreatDoorEnv
import Derived.Test.YtohkjddpblocoaaGreatDoorTpFrun2
namespace Go.Proofs.YtohkjddpblocoaaGreatDoor
open Go.Tp
set_option maxRecDepth 100000

def xmoves : FuncId → Bool := fun f => match f with | 162 => true | _ => false
def xcaps : FuncId → Bool := fun f => match f with | 1000011 => true | 1000012 => true | 1000024 => true | 1000026 => true | 1000027 => true | 1000028 => true | 1000029 => true | 1000030 => true | 1000051 => true | 1000053 => true | 1000054 => true | 1000055 => true | 1000057 => true | 1000086 => true | 2000019 => true | 2000045 => true | 2000046 => true | 2000071 => true | 2000072 => true | 3000053 => true | _ => false
def ord2 : Nat → RHint := fun _ => default
def live2 : Nat → Nat := fun n => match n with | 0 => 0 | _ => 0
theorem fok2 : fnOkX Tryz.prog xmoves xcaps 2 Tryz.f2 ord2 := fnOkX_mk Tryz.func2 (by kernel_rfl)
def ord3 : Nat → RHint := fun _ => default
def live3 : Nat → Nat := fun n => match n with | 0 => 0 | 1 => 2 | 2 => 6 | 3 => 26 | 4 => 88 | 5 => 344 | 6 => 1368 | 7 => 5464 | 8 => 30040 | 9 => 95576 | 10 => 1 | _ => 0
theorem fok3 : fnOkX Tryz.prog xmoves xcaps 3 Tryz.f3 ord3 := fnOkX_mk Tryz.func3 (by kernel_rfl)
def ord4 : Nat → RHint := fun n => match n with | 14 => ⟨[], some 999999, [], []⟩ | _ => default
def live4 : Nat → Nat := fun n => match n with | 0 => 25 | 1 => 89 | 2 => 1048665 | 3 => 48 | 4 => 217 | 5 => 58720472 | 6 => 125829336 | 7 => 58721240 | 8 => 58720472 | 9 => 58720472 | 10 => 1240 | 11 => 1104 | 12 => 1040 | 13 => 2251799813686288 | 14 => 48 | 15 => 4611686018427388944 | 16 => 48 | 17 => 48 | _ => 0
theorem fok4 : fnOkX Tryz.prog xmoves xcaps 4 Tryz.f4 ord4 := fnOkX_mk Tryz.func4 (by kernel_rfl)
def ord5 : Nat → RHint := fun _ => default
def live5 : Nat → Nat := fun n => match n with | 0 => 6 | 1 => 12 | _ => 0
theorem fok5 : fnOkX Tryz.prog xmoves xcaps 5 Tryz.f5 ord5 := fnOkX_mk Tryz.func5 (by kernel_rfl)
def ord6 : Nat → RHint := fun n => match n with | 10 => ⟨[(0, false), (1, false), (2, false), (3, false), (4, false), (5, false), (10, false), (6, true), (7, false), (8, false), (9, false)], some 10, [], [11, 12]⟩ | _ => default
def live6 : Nat → Nat := fun n => match n with | 0 => 2 | 1 => 514 | 2 => 12 | 3 => 18 | 4 => 2066 | 5 => 12 | 6 => 6162 | 7 => 6162 | 8 => 16 | 9 => 264210 | 10 => 114 | 11 => 2147483762 | 12 => 12 | 13 => 16 | 14 => 4398046513170 | 15 => 16 | 16 => 562949953423378 | 17 => 16 | 18 => 18014398509482002 | 19 => 16 | 20 => 12 | _ => 0
theorem fok6 : fnOkX Tryz.prog xmoves xcaps 6 Tryz.f6 ord6 := fnOkX_mk Tryz.func6 (by kernel_rfl)
def ord7 : Nat → RHint := fun _ => default
def live7 : Nat → Nat := fun n => match n with | 0 => 2 | 1 => 16386 | 2 => 12 | 3 => 18 | 4 => 458768 | 5 => 983056 | 6 => 458832 | 7 => 458960 | 8 => 470220944 | 9 => 1007091856 | 10 => 470221456 | 11 => 470224016 | 12 => 275348130960 | 13 => 12 | 14 => 470220944 | 15 => 470220944 | 16 => 458768 | 17 => 458768 | 18 => 12 | _ => 0
theorem fok7 : fnOkX Tryz.prog xmoves xcaps 7 Tryz.f7 ord7 := fnOkX_mk Tryz.func7 (by kernel_rfl)
def ord8 : Nat → RHint := fun _ => default
def live8 : Nat → Nat := fun n => match n with | 0 => 0 | 1 => 2 | 2 => 12 | 3 => 1 | _ => 0
theorem fok8 : fnOkX Tryz.prog xmoves xcaps 8 Tryz.f8 ord8 := fnOkX_mk Tryz.func8 (by kernel_rfl)
def ord9 : Nat → RHint := fun n => match n with | 4 => ⟨[(0, false), (1, false), (5, false), (6, false), (2, true), (3, false), (4, false), (7, true), (8, false), (9, false)], none, [], [10]⟩ | 8 => ⟨[(0, false), (3, false), (1, true), (2, false), (4, true), (5, false), (6, false)], none, [], [7]⟩ | _ => default
def live9 : Nat → Nat := fun n => match n with | 0 => 2 | 1 => 258 | 2 => 4 | 3 => 10 | 4 => 10 | 5 => 14680072 | 6 => 31457288 | 7 => 14680120 | 8 => 14680072 | 9 => 14680072 | 10 => 4 | _ => 0
theorem fok9 : fnOkX Tryz.prog xmoves xcaps 9 Tryz.f9 ord9 := fnOkX_mk Tryz.func9 (by kernel_rfl)
def ord10 : Nat → RHint := fun _ => default
def live10 : Nat → Nat := fun n => match n with | 0 => 6 | 1 => 16 | _ => 0
theorem fok10 : fnOkX Tryz.prog xmoves xcaps 10 Tryz.f10 ord10 := fnOkX_mk Tryz.func10 (by kernel_rfl)
def ord11 : Nat → RHint := fun n => match n with | 12 => ⟨[(0, false), (1, false), (2, false), (3, false), (4, false), (5, false), (6, false), (7, false), (8, false), (9, false), (10, false), (11, false), (12, true)], none, [], [13]⟩ | _ => default
def live11 : Nat → Nat := fun n => match n with | 0 => 93 | 1 => 2141 | 2 => 0 | 3 => 264285 | 4 => 264285 | 5 => 264285 | 6 => 264285 | 7 => 0 | 8 => 134219869 | 9 => 0 | 10 => 137438955613 | 11 => 93 | 12 => 0 | 13 => 9223372036854777949 | 14 => 0 | 15 => 4722366482869645215837 | 16 => 4722366482869645215837 | 17 => 0 | 18 => 2417851639229258349414493 | 19 => 0 | 20 => 1237940039285380274899124317 | 21 => 5 | 22 => 0 | _ => 0
theorem fok11 : fnOkX Tryz.prog xmoves xcaps 11 Tryz.f11 ord11 := fnOkX_mk Tryz.func11 (by kernel_rfl)
def ord12 : Nat → RHint := fun n => match n with | 6 => ⟨[(0, false), (1, false), (2, false), (3, false), (4, false), (5, false), (6, false), (7, false)], none, [5], [8, 9, 10, 11, 12]⟩ | _ => default
def live12 : Nat → Nat := fun n => match n with | 0 => 9 | 1 => 458761 | 2 => 983049 | 3 => 458825 | 4 => 458761 | 5 => 458761 | 6 => 1 | 7 => 16 | _ => 0
theorem fok12 : fnOkX Tryz.prog xmoves xcaps 12 Tryz.f12 ord12 := fnOkX_mk Tryz.func12 (by kernel_rfl)
def ord13 : Nat → RHint := fun _ => default
def live13 : Nat → Nat := fun n => match n with | 0 => 2 | 1 => 4 | _ => 0
theorem fok13 : fnOkX Tryz.prog xmoves xcaps 13 Tryz.f13 ord13 := fnOkX_mk Tryz.func13 (by kernel_rfl)
def ord14 : Nat → RHint := fun _ => default
def live14 : Nat → Nat := fun n => match n with | 0 => 2 | 1 => 4 | _ => 0
theorem fok14 : fnOkX Tryz.prog xmoves xcaps 14 Tryz.f14 ord14 := fnOkX_mk Tryz.func14 (by kernel_rfl)
def ord15 : Nat → RHint := fun _ => default
def live15 : Nat → Nat := fun n => match n with | 0 => 6 | 1 => 14 | 2 => 12 | 3 => 4 | _ => 0
theorem fok15 : fnOkX Tryz.prog xmoves xcaps 15 Tryz.f15 ord15 := fnOkX_mk Tryz.func15 (by kernel_rfl)
def ord16 : Nat → RHint := fun n => match n with | 7 => ⟨[(0, false), (1, false), (2, false), (3, false), (4, false), (5, false), (6, false), (7, true), (8, false), (9, false), (10, true), (11, false), (12, false)], none, [2], [13]⟩ | _ => default
def live16 : Nat → Nat := fun n => match n with | 0 => 6 | 1 => 6 | 2 => 14 | 3 => 14 | 4 => 917510 | 5 => 1966086 | 6 => 917542 | 7 => 917510 | 8 => 917510 | 9 => 6 | 10 => 4 | _ => 0
theorem fok16 : fnOkX Tryz.prog xmoves xcaps 16 Tryz.f16 ord16 := fnOkX_mk Tryz.func16 (by kernel_rfl)
def ord17 : Nat → RHint := fun _ => default
def live17 : Nat → Nat := fun n => match n with | 0 => 2 | 1 => 3586 | 2 => 7682 | 3 => 3610 | 4 => 3634 | 5 => 17179872770 | 6 => 4 | 7 => 3586 | 8 => 962072674306 | 9 => 2061584302082 | 10 => 962072674434 | 11 => 36146444763138 | 12 => 4 | 13 => 962072674306 | 14 => 4 | _ => 0
theorem fok17 : fnOkX Tryz.prog xmoves xcaps 17 Tryz.f17 ord17 := fnOkX_mk Tryz.func17 (by kernel_rfl)
def ord18 : Nat → RHint := fun _ => default
def live18 : Nat → Nat := fun n => match n with | 0 => 3 | 1 => 3 | 2 => 2 | 3 => 48 | _ => 0
theorem fok18 : fnOkX Tryz.prog xmoves xcaps 18 Tryz.f18 ord18 := fnOkX_mk Tryz.func18 (by kernel_rfl)
def ord19 : Nat → RHint := fun _ => default
def live19 : Nat → Nat := fun n => match n with | 0 => 1 | 1 => 4 | _ => 0
theorem fok19 : fnOkX Tryz.prog xmoves xcaps 19 Tryz.f19 ord19 := fnOkX_mk Tryz.func19 (by kernel_rfl)
def ord20 : Nat → RHint := fun n => match n with | 7 => ⟨[(0, false), (1, false), (2, false), (3, false), (4, false), (5, false), (6, false), (7, true)], none, [0], [8]⟩ | 14 => ⟨[(0, false), (1, false), (2, false), (3, true), (4, false), (5, true)], none, [0], [6]⟩ | 16 => ⟨[(0, false), (1, false), (2, false), (3, true), (4, false), (5, true)], none, [0], [6]⟩ | 18 => ⟨[(0, false), (1, false), (2, false), (3, true), (4, false), (5, true)], none, [0], [6]⟩ | _ => default
def live20 : Nat → Nat := fun n => match n with | 0 => 2 | 1 => 10 | 2 => 42 | 3 => 106 | 4 => 106 | 5 => 234 | 6 => 268435690 | 7 => 106 | 8 => 234 | 9 => 234 | 10 => 140737488355562 | 11 => 234 | 12 => 106 | 13 => 590295810358705651818 | 14 => 106 | 15 => 151115727451828646838378 | 16 => 106 | 17 => 38685626227668133590597730 | 18 => 98 | 19 => 69324642199981295394350956640 | 20 => 148552804714245632987894906976 | 21 => 69324642199981295394350957152 | 22 => 69324642199981295394350956640 | 23 => 69324642199981295394350956640 | 24 => 4 | _ => 0
theorem fok20 : fnOkX Tryz.prog xmoves xcaps 20 Tryz.f20 ord20 := fnOkX_mk Tryz.func20 (by kernel_rfl)
def ord21 : Nat → RHint := fun n => match n with | 1 => ⟨[], some 999999, [], []⟩ | _ => default
def live21 : Nat → Nat := fun n => match n with | 0 => 1 | 1 => 4 | _ => 0
theorem fok21 : fnOkX Tryz.prog xmoves xcaps 21 Tryz.f21 ord21 := fnOkX_mk Tryz.func21 (by kernel_rfl)
def ord22 : Nat → RHint := fun _ => default
def live22 : Nat → Nat := fun n => match n with | 0 => 1 | 1 => 8 | 2 => 4 | 3 => 4 | _ => 0
theorem fok22 : fnOkX Tryz.prog xmoves xcaps 22 Tryz.f22 ord22 := fnOkX_mk Tryz.func22 (by kernel_rfl)
def ord23 : Nat → RHint := fun n => match n with | 8 => ⟨[(0, false), (2, false), (3, false), (4, false), (1, true)], none, [], [5, 6]⟩ | _ => default
def live23 : Nat → Nat := fun n => match n with | 0 => 6 | 1 => 65542 | 2 => 16 | 3 => 1835014 | 4 => 3932166 | 5 => 1835110 | 6 => 1835238 | 7 => 4296802502 | 8 => 1835206 | 9 => 4398048346118 | 10 => 16 | 11 => 1835014 | 12 => 16 | _ => 0
theorem fok23 : fnOkX Tryz.prog xmoves xcaps 23 Tryz.f23 ord23 := fnOkX_mk Tryz.func23 (by kernel_rfl)
def ord24 : Nat → RHint := fun _ => default
def live24 : Nat → Nat := fun n => match n with | 0 => 21 | 1 => 149 | 2 => 0 | 3 => 2197 | 4 => 0 | 5 => 524437 | 6 => 0 | 7 => 134217749 | 8 => 0 | _ => 0
theorem fok24 : fnOkX Tryz.prog xmoves xcaps 24 Tryz.f24 ord24 := fnOkX_mk Tryz.func24 (by kernel_rfl)
def ord25 : Nat → RHint := fun _ => default
def live25 : Nat → Nat := fun n => match n with | 0 => 7 | 1 => 134 | 2 => 128 | 3 => 64 | _ => 0
theorem fok25 : fnOkX Tryz.prog xmoves xcaps 25 Tryz.f25 ord25 := fnOkX_mk Tryz.func25 (by kernel_rfl)
def ord26 : Nat → RHint := fun _ => default
def live26 : Nat → Nat := fun n => match n with | 0 => 1055 | 1 => 1836063 | 2 => 3933215 | 3 => 1840159 | 4 => 1836063 | 5 => 1836063 | 6 => 0 | _ => 0
theorem fok26 : fnOkX Tryz.prog xmoves xcaps 26 Tryz.f26 ord26 := fnOkX_mk Tryz.func26 (by kernel_rfl)
def ord27 : Nat → RHint := fun _ => default
def live27 : Nat → Nat := fun n => match n with | 0 => 93 | 1 => 1117 | 2 => 1117 | 3 => 3165 | 4 => 2147486813 | 5 => 3165 | 6 => 3077 | 7 => 2053 | 8 => 5 | 9 => 0 | 10 => 2141 | 11 => 6237 | 12 => 4189 | 13 => 4097 | 14 => 0 | _ => 0
theorem fok27 : fnOkX Tryz.prog xmoves xcaps 27 Tryz.f27 ord27 := fnOkX_mk Tryz.func27 (by kernel_rfl)
def ord28 : Nat → RHint := fun _ => default
def live28 : Nat → Nat := fun n => match n with | 0 => 21 | 1 => 197 | 2 => 2097349 | 3 => 69 | 4 => 5 | 5 => 5 | 6 => 0 | _ => 0
theorem fok28 : fnOkX Tryz.prog xmoves xcaps 28 Tryz.f28 ord28 := fnOkX_mk Tryz.func28 (by kernel_rfl)
def ord29 : Nat → RHint := fun _ => default
def live29 : Nat → Nat := fun n => match n with | 0 => 0 | _ => 0
theorem fok29 : fnOkX Tryz.prog xmoves xcaps 29 Tryz.f29 ord29 := fnOkX_mk Tryz.func29 (by kernel_rfl)
def ord30 : Nat → RHint := fun _ => default
def live30 : Nat → Nat := fun n => match n with | 0 => 93 | 1 => 1117 | 2 => 525405 | 3 => 1573981 | 4 => 5 | 5 => 0 | 6 => 8590459981 | 7 => 0 | 8 => 8796093547597 | 9 => 0 | 10 => 1125899907368013 | 11 => 0 | 12 => 576460752303948877 | 13 => 0 | 14 => 295147905179353351245 | 15 => 0 | 16 => 151115727451828647363661 | 17 => 0 | 18 => 77371252455336267181720653 | 19 => 0 | 20 => 79228162514264337593544475725 | 21 => 5 | 22 => 0 | 23 => 649037107316853453566312041677901 | 24 => 3081 | 25 => 332306998946228968225951765070088201 | 26 => 2049 | 27 => 0 | 28 => 42535295865117307932921825928971550733 | 29 => 5 | 30 => 0 | 31 => 21778071482940061661655974875633165533193 | 32 => 0 | _ => 0
theorem fok30 : fnOkX Tryz.prog xmoves xcaps 30 Tryz.f30 ord30 := fnOkX_mk Tryz.func30 (by kernel_rfl)
def ord31 : Nat → RHint := fun _ => default
def live31 : Nat → Nat := fun n => match n with | 0 => 6 | 1 => 16390 | 2 => 16 | 3 => 17179869190 | 4 => 16 | 5 => 1008806316530991110 | 6 => 2161727821137838086 | 7 => 1008806316530991174 | 8 => 74795782611369197574 | 9 => 16 | 10 => 1008806316530991110 | 11 => 134 | 12 => 154742504910672534362390534 | 13 => 16 | 14 => 4332790137498830962146934786 | 15 => 9284550294640352061743431682 | 16 => 4332790137498830962146935810 | 17 => 281631358937424012539550760962 | 18 => 598544008994481362913726562306 | 19 => 281631358937424012539550765058 | 20 => 281631358937424012539550769154 | 21 => 40846450566240764860434053341186 | 22 => 16 | 23 => 281631358937424012539550760962 | 24 => 4332790137498830962146934786 | 25 => 16 | _ => 0
theorem fok31 : fnOkX Tryz.prog xmoves xcaps 31 Tryz.f31 ord31 := fnOkX_mk Tryz.func31 (by kernel_rfl)
def ord32 : Nat → RHint := fun _ => default
def live32 : Nat → Nat := fun n => match n with | 0 => 2 | 1 => 34 | 2 => 4 | 3 => 536870914 | 4 => 4 | 5 => 2147483650 | 6 => 6442450946 | 7 => 4 | 8 => 4400193994754 | 9 => 4 | 10 => 70370891661314 | 11 => 4 | 12 => 1125902054326274 | 13 => 4 | 14 => 9444732965741437911042 | 15 => 9444732965739290427394 | 16 => 4 | 17 => 4 | _ => 0
theorem fok32 : fnOkX Tryz.prog xmoves xcaps 32 Tryz.f32 ord32 := fnOkX_mk Tryz.func32 (by kernel_rfl)
def ord33 : Nat → RHint := fun _ => default
def live33 : Nat → Nat := fun n => match n with | 0 => 6 | 1 => 4 | _ => 0
theorem fok33 : fnOkX Tryz.prog xmoves xcaps 33 Tryz.f33 ord33 := fnOkX_mk Tryz.func33 (by kernel_rfl)
def ord34 : Nat → RHint := fun _ => default
def live34 : Nat → Nat := fun n => match n with | 0 => 3 | 1 => 16 | _ => 0
theorem fok34 : fnOkX Tryz.prog xmoves xcaps 34 Tryz.f34 ord34 := fnOkX_mk Tryz.func34 (by kernel_rfl)
def ord35 : Nat → RHint := fun _ => default
def live35 : Nat → Nat := fun n => match n with | 0 => 6 | 1 => 8 | _ => 0
theorem fok35 : fnOkX Tryz.prog xmoves xcaps 35 Tryz.f35 ord35 := fnOkX_mk Tryz.func35 (by kernel_rfl)
def ord36 : Nat → RHint := fun _ => default
def live36 : Nat → Nat := fun n => match n with | 0 => 1 | 1 => 4 | _ => 0
theorem fok36 : fnOkX Tryz.prog xmoves xcaps 36 Tryz.f36 ord36 := fnOkX_mk Tryz.func36 (by kernel_rfl)
def ord37 : Nat → RHint := fun _ => default
def live37 : Nat → Nat := fun n => match n with | 0 => 9 | 1 => 16 | _ => 0
theorem fok37 : fnOkX Tryz.prog xmoves xcaps 37 Tryz.f37 ord37 := fnOkX_mk Tryz.func37 (by kernel_rfl)
def ord38 : Nat → RHint := fun _ => default
def live38 : Nat → Nat := fun n => match n with | 0 => 2 | 1 => 4 | _ => 0
theorem fok38 : fnOkX Tryz.prog xmoves xcaps 38 Tryz.f38 ord38 := fnOkX_mk Tryz.func38 (by kernel_rfl)
def ord39 : Nat → RHint := fun _ => default
def live39 : Nat → Nat := fun n => match n with | 0 => 1 | 1 => 4 | _ => 0
theorem fok39 : fnOkX Tryz.prog xmoves xcaps 39 Tryz.f39 ord39 := fnOkX_mk Tryz.func39 (by kernel_rfl)
def ord40 : Nat → RHint := fun _ => default
def live40 : Nat → Nat := fun n => match n with | 0 => 0 | 1 => 4 | _ => 0
theorem fok40 : fnOkX Tryz.prog xmoves xcaps 40 Tryz.f40 ord40 := fnOkX_mk Tryz.func40 (by kernel_rfl)
def ord41 : Nat → RHint := fun _ => default
def live41 : Nat → Nat := fun n => match n with | 0 => 65 | 1 => 0 | 2 => 524288 | _ => 0
theorem fok41 : fnOkX Tryz.prog xmoves xcaps 41 Tryz.f41 ord41 := fnOkX_mk Tryz.func41 (by kernel_rfl)
def ord42 : Nat → RHint := fun _ => default
def live42 : Nat → Nat := fun n => match n with | 0 => 1 | 1 => 4 | _ => 0
theorem fok42 : fnOkX Tryz.prog xmoves xcaps 42 Tryz.f42 ord42 := fnOkX_mk Tryz.func42 (by kernel_rfl)
def ord43 : Nat → RHint := fun _ => default
def live43 : Nat → Nat := fun n => match n with | 0 => 5 | 1 => 21 | 2 => 8589934613 | 3 => 12 | 4 => 12 | _ => 0
theorem fok43 : fnOkX Tryz.prog xmoves xcaps 43 Tryz.f43 ord43 := fnOkX_mk Tryz.func43 (by kernel_rfl)
def ord44 : Nat → RHint := fun n => match n with | 1 => ⟨[(0, false), (1, false), (2, true), (3, false), (4, false), (5, true)], none, [0], [6]⟩ | _ => default
def live44 : Nat → Nat := fun n => match n with | 0 => 38 | 1 => 0 | _ => 0
theorem fok44 : fnOkX Tryz.prog xmoves xcaps 44 Tryz.f44 ord44 := fnOkX_mk Tryz.func44 (by kernel_rfl)
def ord45 : Nat → RHint := fun _ => default
def live45 : Nat → Nat := fun n => match n with | 0 => 2 | 1 => 2 | 2 => 130 | 3 => 2050 | 4 => 4 | 5 => 10 | 6 => 65666 | 7 => 4 | 8 => 262274 | 9 => 4 | 10 => 1048706 | 11 => 4 | 12 => 67108994 | 13 => 10 | 14 => 268435586 | 15 => 10 | 16 => 1073741826 | 17 => 10 | 18 => 60129542152 | 19 => 128849018888 | 20 => 60129542184 | 21 => 60129542152 | 22 => 60129542152 | 23 => 4 | _ => 0
theorem fok45 : fnOkX Tryz.prog xmoves xcaps 45 Tryz.f45 ord45 := fnOkX_mk Tryz.func45 (by kernel_rfl)
def ord46 : Nat → RHint := fun _ => default
def live46 : Nat → Nat := fun n => match n with | 0 => 2 | 1 => 66 | 2 => 194 | 3 => 4 | 4 => 4162 | 5 => 4 | 6 => 262146 | 7 => 8 | 8 => 4 | 9 => 4 | _ => 0
theorem fok46 : fnOkX Tryz.prog xmoves xcaps 46 Tryz.f46 ord46 := fnOkX_mk Tryz.func46 (by kernel_rfl)
def ord47 : Nat → RHint := fun _ => default
def live47 : Nat → Nat := fun n => match n with | 0 => 3 | 1 => 4099 | 2 => 12291 | 3 => 16 | 4 => 32771 | 5 => 16 | 6 => 35 | 7 => 4194339 | 8 => 536870947 | 9 => 35 | 10 => 35 | 11 => 3848290697251 | 12 => 8246337208355 | 13 => 3848290697379 | 14 => 566798244118691 | 15 => 3848290697379 | 16 => 3848290697251 | 17 => 3848290697251 | 18 => 291 | 19 => 259 | 20 => 259 | 21 => 64563604257983430914 | 22 => 138350580552821637378 | 23 => 64563604257983431938 | 24 => 64563604257983431938 | 25 => 64563604257983430914 | 26 => 64563604257983430914 | 27 => 16 | _ => 0
theorem fok47 : fnOkX Tryz.prog xmoves xcaps 47 Tryz.f47 ord47 := fnOkX_mk Tryz.func47 (by kernel_rfl)
def ord48 : Nat → RHint := fun n => match n with | 1 => ⟨[(1, false), (2, false), (7, false), (0, true), (3, false), (4, false), (5, false), (6, false)], some 7, [], [8, 9]⟩ | _ => default
def live48 : Nat → Nat := fun n => match n with | 0 => 2 | 1 => 26 | 2 => 4 | _ => 0
theorem fok48 : fnOkX Tryz.prog xmoves xcaps 48 Tryz.f48 ord48 := fnOkX_mk Tryz.func48 (by kernel_rfl)
def ord49 : Nat → RHint := fun _ => default
def live49 : Nat → Nat := fun n => match n with | 0 => 6 | 1 => 70 | 2 => 198 | 3 => 16 | 4 => 131142 | 5 => 16 | 6 => 4194374 | 7 => 4194374 | 8 => 16 | 9 => 17179869252 | 10 => 16 | 11 => 549755813956 | 12 => 16 | 13 => 35184372088900 | 14 => 16 | 15 => 72057594037928004 | 16 => 72057594037928004 | 17 => 16 | 18 => 4611686018427387972 | 19 => 16 | 20 => 295147905179352825924 | 21 => 16 | 22 => 302231454903657293676612 | 23 => 16 | 24 => 9671406556917033397649476 | 25 => 16 | 26 => 41538374868278621028243970633760836 | 27 => 41538374868278621028243970633760836 | 28 => 16 | 29 => 170141183460469231731687303715884105732 | 30 => 16 | 31 => 16 | _ => 0
theorem fok49 : fnOkX Tryz.prog xmoves xcaps 49 Tryz.f49 ord49 := fnOkX_mk Tryz.func49 (by kernel_rfl)
def ord50 : Nat → RHint := fun _ => default
def live50 : Nat → Nat := fun n => match n with | 0 => 1 | 1 => 17 | 2 => 4 | 3 => 4 | _ => 0
theorem fok50 : fnOkX Tryz.prog xmoves xcaps 50 Tryz.f50 ord50 := fnOkX_mk Tryz.func50 (by kernel_rfl)
def ord51 : Nat → RHint := fun _ => default
def live51 : Nat → Nat := fun n => match n with | 0 => 35 | 1 => 0 | _ => 0
theorem fok51 : fnOkX Tryz.prog xmoves xcaps 51 Tryz.f51 ord51 := fnOkX_mk Tryz.func51 (by kernel_rfl)
def ord52 : Nat → RHint := fun _ => default
def live52 : Nat → Nat := fun n => match n with | 0 => 1 | 1 => 17 | 2 => 4 | 3 => 4 | _ => 0
theorem fok52 : fnOkX Tryz.prog xmoves xcaps 52 Tryz.f52 ord52 := fnOkX_mk Tryz.func52 (by kernel_rfl)
def ord53 : Nat → RHint := fun _ => default
def live53 : Nat → Nat := fun n => match n with | 0 => 1 | 1 => 4 | _ => 0
theorem fok53 : fnOkX Tryz.prog xmoves xcaps 53 Tryz.f53 ord53 := fnOkX_mk Tryz.func53 (by kernel_rfl)
def ord54 : Nat → RHint := fun n => match n with | 0 => ⟨[(0, false), (1, false), (2, false), (3, false), (4, false), (5, false), (6, false), (7, true), (8, false), (9, false)], none, [], [10]⟩ | _ => default
def live54 : Nat → Nat := fun n => match n with | 0 => 0 | _ => 0
theorem fok54 : fnOkX Tryz.prog xmoves xcaps 54 Tryz.f54 ord54 := fnOkX_mk Tryz.func54 (by kernel_rfl)
def ord55 : Nat → RHint := fun _ => default
def live55 : Nat → Nat := fun n => match n with | 0 => 15 | 1 => 527 | 2 => 29197 | 3 => 61965 | 4 => 32269 | 5 => 30221 | 6 => 29197 | 7 => 29197 | 8 => 256 | _ => 0
theorem fok55 : fnOkX Tryz.prog xmoves xcaps 55 Tryz.f55 ord55 := fnOkX_mk Tryz.func55 (by kernel_rfl)
def ord56 : Nat → RHint := fun _ => default
def live56 : Nat → Nat := fun n => match n with | 0 => 12 | 1 => 108 | 2 => 8232 | 3 => 16 | 4 => 536870952 | 5 => 16 | 6 => 281474976710696 | 7 => 16 | 8 => 16 | _ => 0
theorem fok56 : fnOkX Tryz.prog xmoves xcaps 56 Tryz.f56 ord56 := fnOkX_mk Tryz.func56 (by kernel_rfl)
def ord57 : Nat → RHint := fun n => match n with | 8 => ⟨[(0, false), (1, false), (2, false), (3, false), (4, false), (5, false), (6, false), (7, false), (8, false), (13, false), (9, true), (10, false), (11, false), (12, false)], some 13, [], [14, 15]⟩ | 13 => ⟨[(0, false), (1, false), (2, false), (3, false), (4, false)], none, [], [5, 6]⟩ | _ => default
def live57 : Nat → Nat := fun n => match n with | 0 => 2 | 1 => 10 | 2 => 393226 | 3 => 917514 | 4 => 393242 | 5 => 393258 | 6 => 67502122 | 7 => 393322 | 8 => 393450 | 9 => 9223372036855169130 | 10 => 393258 | 11 => 393258 | 12 => 393322 | 13 => 393834 | 14 => 9903520314283042199193387626 | 15 => 393258 | 16 => 393258 | 17 => 394346 | 18 => 394282 | 19 => 10633823966279326983230456482243150890 | 20 => 4 | 21 => 340282366920938463463374607431768605738 | 22 => 393258 | 23 => 393226 | 24 => 4 | _ => 0
theorem fok57 : fnOkX Tryz.prog xmoves xcaps 57 Tryz.f57 ord57 := fnOkX_mk Tryz.func57 (by kernel_rfl)
def ord58 : Nat → RHint := fun _ => default
def live58 : Nat → Nat := fun n => match n with | 0 => 6 | 1 => 38 | 2 => 16 | 3 => 16390 | 4 => 16 | 5 => 16777222 | 6 => 16 | 7 => 16 | _ => 0
theorem fok58 : fnOkX Tryz.prog xmoves xcaps 58 Tryz.f58 ord58 := fnOkX_mk Tryz.func58 (by kernel_rfl)
def ord59 : Nat → RHint := fun _ => default
def live59 : Nat → Nat := fun n => match n with | 0 => 2 | 1 => 4 | _ => 0
theorem fok59 : fnOkX Tryz.prog xmoves xcaps 59 Tryz.f59 ord59 := fnOkX_mk Tryz.func59 (by kernel_rfl)
def ord60 : Nat → RHint := fun _ => default
def live60 : Nat → Nat := fun n => match n with | 0 => 2 | 1 => 450 | 2 => 962 | 3 => 466 | 4 => 8389058 | 5 => 4 | 6 => 450 | 7 => 4 | _ => 0
theorem fok60 : fnOkX Tryz.prog xmoves xcaps 60 Tryz.f60 ord60 := fnOkX_mk Tryz.func60 (by kernel_rfl)
def ord61 : Nat → RHint := fun n => match n with | 2 => ⟨[(0, false), (1, false), (2, true), (3, false), (4, false), (5, false), (6, false), (7, false), (8, false), (9, false), (10, false), (11, false), (12, false), (13, false), (14, true), (15, false), (16, false), (17, false), (18, false), (19, false), (20, false), (21, false), (22, false), (23, false), (24, false), (25, false), (26, false), (27, false), (28, false), (29, false), (30, false), (31, false), (32, false), (33, false), (34, false)], none, [], [35, 36, 37]⟩ | _ => default
def live61 : Nat → Nat := fun n => match n with | 0 => 2 | 1 => 18 | 2 => 4 | _ => 0
theorem fok61 : fnOkX Tryz.prog xmoves xcaps 61 Tryz.f61 ord61 := fnOkX_mk Tryz.func61 (by kernel_rfl)
def ord62 : Nat → RHint := fun _ => default
def live62 : Nat → Nat := fun n => match n with | 0 => 2 | 1 => 34 | 2 => 4 | _ => 0
theorem fok62 : fnOkX Tryz.prog xmoves xcaps 62 Tryz.f62 ord62 := fnOkX_mk Tryz.func62 (by kernel_rfl)
def ord63 : Nat → RHint := fun _ => default
def live63 : Nat → Nat := fun n => match n with | 0 => 28 | 1 => 16 | _ => 0
theorem fok63 : fnOkX Tryz.prog xmoves xcaps 63 Tryz.f63 ord63 := fnOkX_mk Tryz.func63 (by kernel_rfl)
def ord64 : Nat → RHint := fun _ => default
def live64 : Nat → Nat := fun n => match n with | 0 => 3 | 1 => 387 | 2 => 899 | 3 => 419 | 4 => 65955 | 5 => 16 | 6 => 387 | 7 => 16 | _ => 0
theorem fok64 : fnOkX Tryz.prog xmoves xcaps 64 Tryz.f64 ord64 := fnOkX_mk Tryz.func64 (by kernel_rfl)
def ord65 : Nat → RHint := fun _ => default
def live65 : Nat → Nat := fun n => match n with | 0 => 1 | 1 => 4 | _ => 0
theorem fok65 : fnOkX Tryz.prog xmoves xcaps 65 Tryz.f65 ord65 := fnOkX_mk Tryz.func65 (by kernel_rfl)
def ord66 : Nat → RHint := fun _ => default
def live66 : Nat → Nat := fun n => match n with | 0 => 3 | 1 => 16 | _ => 0
theorem fok66 : fnOkX Tryz.prog xmoves xcaps 66 Tryz.f66 ord66 := fnOkX_mk Tryz.func66 (by kernel_rfl)
def ord67 : Nat → RHint := fun _ => default
def live67 : Nat → Nat := fun n => match n with | 0 => 3 | 1 => 16 | _ => 0
theorem fok67 : fnOkX Tryz.prog xmoves xcaps 67 Tryz.f67 ord67 := fnOkX_mk Tryz.func67 (by kernel_rfl)
def ord68 : Nat → RHint := fun _ => default
def live68 : Nat → Nat := fun n => match n with | 0 => 6 | 1 => 8 | _ => 0
theorem fok68 : fnOkX Tryz.prog xmoves xcaps 68 Tryz.f68 ord68 := fnOkX_mk Tryz.func68 (by kernel_rfl)
def ord70 : Nat → RHint := fun _ => default
def live70 : Nat → Nat := fun n => match n with | 0 => 3 | 1 => 2051 | 2 => 131073 | 3 => 16 | 4 => 33 | 5 => 97 | 6 => 8388705 | 7 => 97 | 8 => 225 | 9 => 161 | 10 => 17179869344 | 11 => 160 | 12 => 16 | 13 => 16 | 14 => 512 | 15 => 16 | _ => 0
theorem fok70 : fnOkX Tryz.prog xmoves xcaps 70 Tryz.f70 ord70 := fnOkX_mk Tryz.func70 (by kernel_rfl)
def ord71 : Nat → RHint := fun _ => default
def live71 : Nat → Nat := fun n => match n with | 0 => 3 | 1 => 16 | _ => 0
theorem fok71 : fnOkX Tryz.prog xmoves xcaps 71 Tryz.f71 ord71 := fnOkX_mk Tryz.func71 (by kernel_rfl)
def ord72 : Nat → RHint := fun _ => default
def live72 : Nat → Nat := fun n => match n with | 0 => 1 | 1 => 4 | _ => 0
theorem fok72 : fnOkX Tryz.prog xmoves xcaps 72 Tryz.f72 ord72 := fnOkX_mk Tryz.func72 (by kernel_rfl)
def ord73 : Nat → RHint := fun _ => default
def live73 : Nat → Nat := fun n => match n with | 0 => 2 | 1 => 130 | 2 => 12 | 3 => 18 | 4 => 16 | 5 => 12 | _ => 0
theorem fok73 : fnOkX Tryz.prog xmoves xcaps 73 Tryz.f73 ord73 := fnOkX_mk Tryz.func73 (by kernel_rfl)
def ord74 : Nat → RHint := fun n => match n with | 3 => ⟨[], some 999999, [], []⟩ | _ => default
def live74 : Nat → Nat := fun n => match n with | 0 => 3 | 1 => 131 | 2 => 3 | 3 => 2097155 | 4 => 0 | _ => 0
theorem fok74 : fnOkX Tryz.prog xmoves xcaps 74 Tryz.f74 ord74 := fnOkX_mk Tryz.func74 (by kernel_rfl)
def ord75 : Nat → RHint := fun _ => default
def live75 : Nat → Nat := fun n => match n with | 0 => 0 | 1 => 1 | _ => 0
theorem fok75 : fnOkX Tryz.prog xmoves xcaps 75 Tryz.f75 ord75 := fnOkX_mk Tryz.func75 (by kernel_rfl)
def ord76 : Nat → RHint := fun _ => default
def live76 : Nat → Nat := fun n => match n with | 0 => 2 | 1 => 4 | _ => 0
theorem fok76 : fnOkX Tryz.prog xmoves xcaps 76 Tryz.f76 ord76 := fnOkX_mk Tryz.func76 (by kernel_rfl)
def ord77 : Nat → RHint := fun _ => default
def live77 : Nat → Nat := fun n => match n with | 0 => 1 | 1 => 65 | 2 => 449 | 3 => 81 | 4 => 32833 | 5 => 4 | 6 => 4 | _ => 0
theorem fok77 : fnOkX Tryz.prog xmoves xcaps 77 Tryz.f77 ord77 := fnOkX_mk Tryz.func77 (by kernel_rfl)
def ord78 : Nat → RHint := fun _ => default
def live78 : Nat → Nat := fun n => match n with | 0 => 2 | 1 => 4 | _ => 0
theorem fok78 : fnOkX Tryz.prog xmoves xcaps 78 Tryz.f78 ord78 := fnOkX_mk Tryz.func78 (by kernel_rfl)
def ord79 : Nat → RHint := fun _ => default
def live79 : Nat → Nat := fun n => match n with | 0 => 1 | 1 => 4 | _ => 0
theorem fok79 : fnOkX Tryz.prog xmoves xcaps 79 Tryz.f79 ord79 := fnOkX_mk Tryz.func79 (by kernel_rfl)
def ord81 : Nat → RHint := fun _ => default
def live81 : Nat → Nat := fun n => match n with | 0 => 56 | 1 => 176 | 2 => 57520 | 3 => 123056 | 4 => 58032 | 5 => 16834736 | 6 => 64 | 7 => 57520 | 8 => 1200 | 9 => 64 | _ => 0
theorem fok81 : fnOkX Tryz.prog xmoves xcaps 81 Tryz.f81 ord81 := fnOkX_mk Tryz.func81 (by kernel_rfl)
def ord82 : Nat → RHint := fun _ => default
def live82 : Nat → Nat := fun n => match n with | 0 => 12 | 1 => 76 | 2 => 204 | 3 => 204 | 4 => 16 | 5 => 2097228 | 6 => 16 | 7 => 2147483724 | 8 => 16 | 9 => 2199023255628 | 10 => 16 | 11 => 18014398509482056 | 12 => 18014398509481992 | 13 => 16 | 14 => 16 | _ => 0
theorem fok82 : fnOkX Tryz.prog xmoves xcaps 82 Tryz.f82 ord82 := fnOkX_mk Tryz.func82 (by kernel_rfl)
def ord83 : Nat → RHint := fun _ => default
def live83 : Nat → Nat := fun n => match n with | 0 => 2 | 1 => 4 | _ => 0
theorem fok83 : fnOkX Tryz.prog xmoves xcaps 83 Tryz.f83 ord83 := fnOkX_mk Tryz.func83 (by kernel_rfl)
def ord84 : Nat → RHint := fun _ => default
def live84 : Nat → Nat := fun n => match n with | 0 => 2 | 1 => 4 | _ => 0
theorem fok84 : fnOkX Tryz.prog xmoves xcaps 84 Tryz.f84 ord84 := fnOkX_mk Tryz.func84 (by kernel_rfl)
def ord85 : Nat → RHint := fun _ => default
def live85 : Nat → Nat := fun n => match n with | 0 => 2 | 1 => 131074 | 2 => 4 | 3 => 524290 | 4 => 1572866 | 5 => 4 | 6 => 34078722 | 7 => 4 | 8 => 134742018 | 9 => 4 | 10 => 137438953474 | 11 => 10 | 12 => 8796093022218 | 13 => 10 | 14 => 2251799813685258 | 15 => 4 | 16 => 4 | 17 => 4 | _ => 0
theorem fok85 : fnOkX Tryz.prog xmoves xcaps 85 Tryz.f85 ord85 := fnOkX_mk Tryz.func85 (by kernel_rfl)
def ord86 : Nat → RHint := fun _ => default
def live86 : Nat → Nat := fun n => match n with | 0 => 6 | 1 => 38 | 2 => 102 | 3 => 358 | 4 => 1073742178 | 5 => 352 | 6 => 4398046511392 | 7 => 256 | 8 => 256 | 9 => 16 | _ => 0
theorem fok86 : fnOkX Tryz.prog xmoves xcaps 86 Tryz.f86 ord86 := fnOkX_mk Tryz.func86 (by kernel_rfl)
def ord87 : Nat → RHint := fun _ => default
def live87 : Nat → Nat := fun n => match n with | 0 => 2 | 1 => 4 | _ => 0
theorem fok87 : fnOkX Tryz.prog xmoves xcaps 87 Tryz.f87 ord87 := fnOkX_mk Tryz.func87 (by kernel_rfl)
def ord88 : Nat → RHint := fun _ => default
def live88 : Nat → Nat := fun n => match n with | 0 => 12 | 1 => 16 | _ => 0
theorem fok88 : fnOkX Tryz.prog xmoves xcaps 88 Tryz.f88 ord88 := fnOkX_mk Tryz.func88 (by kernel_rfl)
def ord89 : Nat → RHint := fun _ => default
def live89 : Nat → Nat := fun n => match n with | 0 => 1 | 1 => 225 | 2 => 481 | 3 => 249 | 4 => 2097377 | 5 => 4 | 6 => 225 | 7 => 4 | _ => 0
theorem fok89 : fnOkX Tryz.prog xmoves xcaps 89 Tryz.f89 ord89 := fnOkX_mk Tryz.func89 (by kernel_rfl)
def ord90 : Nat → RHint := fun n => match n with | 2 => ⟨[(0, false), (1, false), (2, false), (3, false), (4, false), (5, false), (7, false), (8, false), (9, false), (10, false), (6, true), (11, false)], none, [], [12]⟩ | 3 => ⟨[(0, false), (1, false), (2, false), (3, false), (4, false), (5, false), (6, false), (7, false), (8, false), (9, false), (10, false), (11, false), (12, false)], none, [], [13]⟩ | _ => default
def live90 : Nat → Nat := fun n => match n with | 0 => 6 | 1 => 8198 | 2 => 6 | 3 => 28 | _ => 0
theorem fok90 : fnOkX Tryz.prog xmoves xcaps 90 Tryz.f90 ord90 := fnOkX_mk Tryz.func90 (by kernel_rfl)
def ord91 : Nat → RHint := fun n => match n with | 11 => ⟨[(0, false), (1, false), (2, false), (3, false), (4, false), (5, false), (8, false), (6, true), (7, false), (9, true), (10, false), (11, true), (12, false)], none, [1], [13]⟩ | _ => default
def live91 : Nat → Nat := fun n => match n with | 0 => 78 | 1 => 206 | 2 => 206 | 3 => 65742 | 4 => 974 | 5 => 67109838 | 6 => 64 | 7 => 206 | 8 => 120259084494 | 9 => 257698037966 | 10 => 120259087566 | 11 => 120259084494 | 12 => 120259084494 | 13 => 64 | _ => 0
theorem fok91 : fnOkX Tryz.prog xmoves xcaps 91 Tryz.f91 ord91 := fnOkX_mk Tryz.func91 (by kernel_rfl)
def ord92 : Nat → RHint := fun _ => default
def live92 : Nat → Nat := fun n => match n with | 0 => 7 | 1 => 135 | 2 => 524421 | 3 => 96 | 4 => 96 | _ => 0
theorem fok92 : fnOkX Tryz.prog xmoves xcaps 92 Tryz.f92 ord92 := fnOkX_mk Tryz.func92 (by kernel_rfl)
def ord93 : Nat → RHint := fun _ => default
def live93 : Nat → Nat := fun n => match n with | 0 => 1 | 1 => 4 | _ => 0
theorem fok93 : fnOkX Tryz.prog xmoves xcaps 93 Tryz.f93 ord93 := fnOkX_mk Tryz.func93 (by kernel_rfl)
def ord94 : Nat → RHint := fun _ => default
def live94 : Nat → Nat := fun n => match n with | 0 => 3 | 1 => 35 | 2 => 547 | 3 => 35 | 4 => 131107 | 5 => 16 | 6 => 16 | _ => 0
theorem fok94 : fnOkX Tryz.prog xmoves xcaps 94 Tryz.f94 ord94 := fnOkX_mk Tryz.func94 (by kernel_rfl)
def ord95 : Nat → RHint := fun _ => default
def live95 : Nat → Nat := fun n => match n with | 0 => 1 | 1 => 4 | _ => 0
theorem fok95 : fnOkX Tryz.prog xmoves xcaps 95 Tryz.f95 ord95 := fnOkX_mk Tryz.func95 (by kernel_rfl)
def ord96 : Nat → RHint := fun _ => default
def live96 : Nat → Nat := fun n => match n with | 0 => 1 | 1 => 4 | _ => 0
theorem fok96 : fnOkX Tryz.prog xmoves xcaps 96 Tryz.f96 ord96 := fnOkX_mk Tryz.func96 (by kernel_rfl)
def ord97 : Nat → RHint := fun _ => default
def live97 : Nat → Nat := fun n => match n with | 0 => 3 | 1 => 387 | 2 => 899 | 3 => 419 | 4 => 65955 | 5 => 16 | 6 => 387 | 7 => 16 | _ => 0
theorem fok97 : fnOkX Tryz.prog xmoves xcaps 97 Tryz.f97 ord97 := fnOkX_mk Tryz.func97 (by kernel_rfl)
def ord98 : Nat → RHint := fun _ => default
def live98 : Nat → Nat := fun n => match n with | 0 => 3 | 1 => 387 | 2 => 899 | 3 => 419 | 4 => 65955 | 5 => 16 | 6 => 387 | 7 => 16 | _ => 0
theorem fok98 : fnOkX Tryz.prog xmoves xcaps 98 Tryz.f98 ord98 := fnOkX_mk Tryz.func98 (by kernel_rfl)
def ord99 : Nat → RHint := fun _ => default
def live99 : Nat → Nat := fun n => match n with | 0 => 1 | 1 => 17 | 2 => 4 | 3 => 4 | _ => 0
theorem fok99 : fnOkX Tryz.prog xmoves xcaps 99 Tryz.f99 ord99 := fnOkX_mk Tryz.func99 (by kernel_rfl)
def ord100 : Nat → RHint := fun _ => default
def live100 : Nat → Nat := fun n => match n with | 0 => 1 | 1 => 9 | 2 => 4 | _ => 0
theorem fok100 : fnOkX Tryz.prog xmoves xcaps 100 Tryz.f100 ord100 := fnOkX_mk Tryz.func100 (by kernel_rfl)
def ord101 : Nat → RHint := fun n => match n with | 7 => ⟨[], some 999999, [], []⟩ | 8 => ⟨[], some 999999, [], []⟩ | 9 => ⟨[], some 999999, [], []⟩ | 10 => ⟨[], some 999999, [], []⟩ | 17 => ⟨[], some 999999, [], []⟩ | 18 => ⟨[], some 999999, [], []⟩ | 23 => ⟨[], some 999999, [], []⟩ | _ => default
def live101 : Nat → Nat := fun n => match n with | 0 => 19 | 1 => 1048595 | 2 => 51 | 3 => 51 | 4 => 211 | 5 => 851 | 6 => 3859 | 7 => 3347 | 8 => 3091 | 9 => 1043 | 10 => 19 | 11 => 19 | 12 => 4113 | 13 => 633825300114114700748351606801 | 14 => 12305 | 15 => 12305 | 16 => 53265 | 17 => 20497 | 18 => 4113 | 19 => 4113 | 20 => 696898287454081973172991196020261297066001 | 21 => 69649 | 22 => 69649 | 23 => 4113 | 24 => 4113 | 25 => 2923003274661805836407369665432566039311865090049 | 26 => 0 | _ => 0
theorem fok101 : fnOkX Tryz.prog xmoves xcaps 101 Tryz.f101 ord101 := fnOkX_mk Tryz.func101 (by kernel_rfl)
def ord102 : Nat → RHint := fun _ => default
def live102 : Nat → Nat := fun n => match n with | 0 => 3103 | 1 => 268438559 | 2 => 3103 | 3 => 7199 | 4 => 15391 | 5 => 1073757215 | 6 => 15391 | 7 => 17179884575 | 8 => 31775 | 9 => 64543 | 10 => 130075 | 11 => 70368744307739 | 12 => 130075 | 13 => 130075 | 14 => 130075 | 15 => 15387 | 16 => 15385 | 17 => 146459 | 18 => 295147905179352972315 | 19 => 146459 | 20 => 408603 | 21 => 408601 | 22 => 146459 | 23 => 15387 | 24 => 15385 | 25 => 618970019642690137449577489 | 26 => 15377 | 27 => 15377 | 28 => 19807040628566084398386002945 | 29 => 3072 | 30 => 3072 | _ => 0
theorem fok102 : fnOkX Tryz.prog xmoves xcaps 102 Tryz.f102 ord102 := fnOkX_mk Tryz.func102 (by kernel_rfl)
def ord103 : Nat → RHint := fun _ => default
def live103 : Nat → Nat := fun n => match n with | 0 => 1 | 1 => 8 | 2 => 4 | 3 => 4 | _ => 0
theorem fok103 : fnOkX Tryz.prog xmoves xcaps 103 Tryz.f103 ord103 := fnOkX_mk Tryz.func103 (by kernel_rfl)
def ord104 : Nat → RHint := fun _ => default
def live104 : Nat → Nat := fun n => match n with | 0 => 2 | 1 => 4 | _ => 0
theorem fok104 : fnOkX Tryz.prog xmoves xcaps 104 Tryz.f104 ord104 := fnOkX_mk Tryz.func104 (by kernel_rfl)
def ord105 : Nat → RHint := fun _ => default
def live105 : Nat → Nat := fun n => match n with | 0 => 9 | 1 => 521 | 2 => 1545 | 3 => 0 | 4 => 66057 | 5 => 9 | 6 => 25 | 7 => 16777241 | 8 => 25 | 9 => 57 | 10 => 68719476761 | 11 => 25 | 12 => 25 | 13 => 0 | 14 => 140737488355337 | 15 => 9 | 16 => 31525197391593473 | 17 => 67553994410557441 | 18 => 31525197391593665 | 19 => 1184446701998440577 | 20 => 31525197391593601 | 21 => 31525197391593473 | 22 => 31525197391593473 | 23 => 0 | _ => 0
theorem fok105 : fnOkX Tryz.prog xmoves xcaps 105 Tryz.f105 ord105 := fnOkX_mk Tryz.func105 (by kernel_rfl)
def ord106 : Nat → RHint := fun n => match n with | 0 => ⟨[], some 999999, [], []⟩ | _ => default
def live106 : Nat → Nat := fun n => match n with | 0 => 17 | 1 => 17 | 2 => 0 | _ => 0
theorem fok106 : fnOkX Tryz.prog xmoves xcaps 106 Tryz.f106 ord106 := fnOkX_mk Tryz.func106 (by kernel_rfl)
def ord107 : Nat → RHint := fun _ => default
def live107 : Nat → Nat := fun n => match n with | 0 => 12 | 1 => 16 | _ => 0
theorem fok107 : fnOkX Tryz.prog xmoves xcaps 107 Tryz.f107 ord107 := fnOkX_mk Tryz.func107 (by kernel_rfl)
def ord108 : Nat → RHint := fun _ => default
def live108 : Nat → Nat := fun n => match n with | 0 => 2 | 1 => 4 | _ => 0
theorem fok108 : fnOkX Tryz.prog xmoves xcaps 108 Tryz.f108 ord108 := fnOkX_mk Tryz.func108 (by kernel_rfl)
def ord109 : Nat → RHint := fun _ => default
def live109 : Nat → Nat := fun n => match n with | 0 => 2 | 1 => 10 | 2 => 8 | 3 => 4 | _ => 0
theorem fok109 : fnOkX Tryz.prog xmoves xcaps 109 Tryz.f109 ord109 := fnOkX_mk Tryz.func109 (by kernel_rfl)
def ord110 : Nat → RHint := fun _ => default
def live110 : Nat → Nat := fun n => match n with | 0 => 7 | 1 => 32 | _ => 0
theorem fok110 : fnOkX Tryz.prog xmoves xcaps 110 Tryz.f110 ord110 := fnOkX_mk Tryz.func110 (by kernel_rfl)
def ord111 : Nat → RHint := fun _ => default
def live111 : Nat → Nat := fun n => match n with | 0 => 2 | 1 => 10 | 2 => 4 | 3 => 4096 | 4 => 4 | 5 => 4 | _ => 0
theorem fok111 : fnOkX Tryz.prog xmoves xcaps 111 Tryz.f111 ord111 := fnOkX_mk Tryz.func111 (by kernel_rfl)
def ord112 : Nat → RHint := fun _ => default
def live112 : Nat → Nat := fun n => match n with | 0 => 1 | 1 => 4 | _ => 0
theorem fok112 : fnOkX Tryz.prog xmoves xcaps 112 Tryz.f112 ord112 := fnOkX_mk Tryz.func112 (by kernel_rfl)
def ord113 : Nat → RHint := fun _ => default
def live113 : Nat → Nat := fun n => match n with | 0 => 5 | 1 => 0 | _ => 0
theorem fok113 : fnOkX Tryz.prog xmoves xcaps 113 Tryz.f113 ord113 := fnOkX_mk Tryz.func113 (by kernel_rfl)
def ord114 : Nat → RHint := fun n => match n with | 6 => ⟨[(0, false), (1, false), (2, false), (3, false), (4, false), (5, false), (6, false), (7, false), (8, false), (9, false)], none, [], []⟩ | 11 => ⟨[(0, false), (1, false), (2, false), (3, false), (4, false), (5, false), (6, false), (7, false), (8, false), (9, false)], none, [], []⟩ | _ => default
def live114 : Nat → Nat := fun n => match n with | 0 => 1 | 1 => 257 | 2 => 4 | 3 => 9 | 4 => 8201 | 5 => 9 | 6 => 33554441 | 7 => 25 | 8 => 57 | 9 => 4294967353 | 10 => 57 | 11 => 17592186044473 | 12 => 57 | 13 => 57 | 14 => 9 | 15 => 4 | 16 => 4 | _ => 0
theorem fok114 : fnOkX Tryz.prog xmoves xcaps 114 Tryz.f114 ord114 := fnOkX_mk Tryz.func114 (by kernel_rfl)
def ord115 : Nat → RHint := fun _ => default
def live115 : Nat → Nat := fun n => match n with | 0 => 3 | 1 => 16 | _ => 0
theorem fok115 : fnOkX Tryz.prog xmoves xcaps 115 Tryz.f115 ord115 := fnOkX_mk Tryz.func115 (by kernel_rfl)
def ord116 : Nat → RHint := fun _ => default
def live116 : Nat → Nat := fun n => match n with | 0 => 3 | 1 => 8 | _ => 0
theorem fok116 : fnOkX Tryz.prog xmoves xcaps 116 Tryz.f116 ord116 := fnOkX_mk Tryz.func116 (by kernel_rfl)
def ord117 : Nat → RHint := fun _ => default
def live117 : Nat → Nat := fun n => match n with | 0 => 12 | 1 => 16396 | 2 => 16 | 3 => 44 | 4 => 8388648 | 5 => 40 | 6 => 16 | _ => 0
theorem fok117 : fnOkX Tryz.prog xmoves xcaps 117 Tryz.f117 ord117 := fnOkX_mk Tryz.func117 (by kernel_rfl)
def ord118 : Nat → RHint := fun n => match n with | 6 => ⟨[(0, false), (1, false), (2, false), (3, true), (4, false), (5, true), (6, false)], none, [1], [7]⟩ | _ => default
def live118 : Nat → Nat := fun n => match n with | 0 => 6 | 1 => 14 | 2 => 14 | 3 => 3596 | 4 => 7692 | 5 => 3628 | 6 => 3596 | 7 => 3596 | 8 => 4 | _ => 0
theorem fok118 : fnOkX Tryz.prog xmoves xcaps 118 Tryz.f118 ord118 := fnOkX_mk Tryz.func118 (by kernel_rfl)
def ord119 : Nat → RHint := fun _ => default
def live119 : Nat → Nat := fun n => match n with | 0 => 6 | 1 => 2048 | 2 => 16 | 3 => 16 | _ => 0
theorem fok119 : fnOkX Tryz.prog xmoves xcaps 119 Tryz.f119 ord119 := fnOkX_mk Tryz.func119 (by kernel_rfl)
def ord120 : Nat → RHint := fun _ => default
def live120 : Nat → Nat := fun n => match n with | 0 => 1 | 1 => 4 | _ => 0
theorem fok120 : fnOkX Tryz.prog xmoves xcaps 120 Tryz.f120 ord120 := fnOkX_mk Tryz.func120 (by kernel_rfl)
def ord121 : Nat → RHint := fun _ => default
def live121 : Nat → Nat := fun n => match n with | 0 => 1 | 1 => 4 | _ => 0
theorem fok121 : fnOkX Tryz.prog xmoves xcaps 121 Tryz.f121 ord121 := fnOkX_mk Tryz.func121 (by kernel_rfl)
def ord122 : Nat → RHint := fun _ => default
def live122 : Nat → Nat := fun n => match n with | 0 => 5 | 1 => 21 | 2 => 1 | 3 => 5 | 4 => 261 | 5 => 5 | 6 => 5 | 7 => 16389 | 8 => 5 | 9 => 5 | 10 => 4 | _ => 0
theorem fok122 : fnOkX Tryz.prog xmoves xcaps 122 Tryz.f122 ord122 := fnOkX_mk Tryz.func122 (by kernel_rfl)
def ord123 : Nat → RHint := fun _ => default
def live123 : Nat → Nat := fun n => match n with | 0 => 1 | 1 => 8 | 2 => 4 | 3 => 4 | _ => 0
theorem fok123 : fnOkX Tryz.prog xmoves xcaps 123 Tryz.f123 ord123 := fnOkX_mk Tryz.func123 (by kernel_rfl)
def ord124 : Nat → RHint := fun _ => default
def live124 : Nat → Nat := fun n => match n with | 0 => 1 | 1 => 4 | _ => 0
theorem fok124 : fnOkX Tryz.prog xmoves xcaps 124 Tryz.f124 ord124 := fnOkX_mk Tryz.func124 (by kernel_rfl)
def ord125 : Nat → RHint := fun _ => default
def live125 : Nat → Nat := fun n => match n with | 0 => 1 | 1 => 4 | 2 => 4 | _ => 0
theorem fok125 : fnOkX Tryz.prog xmoves xcaps 125 Tryz.f125 ord125 := fnOkX_mk Tryz.func125 (by kernel_rfl)
def ord126 : Nat → RHint := fun _ => default
def live126 : Nat → Nat := fun n => match n with | 0 => 6 | 1 => 262 | 2 => 774 | 3 => 16 | 4 => 4294967558 | 5 => 16 | 6 => 562949953421318 | 7 => 144115188075855878 | 8 => 16 | 9 => 4035225266123964418 | 10 => 8646911284551352322 | 11 => 4035225266123964482 | 12 => 594331035624829616130 | 13 => 16 | 14 => 4035225266123964418 | 15 => 16 | 16 => 16 | _ => 0
theorem fok126 : fnOkX Tryz.prog xmoves xcaps 126 Tryz.f126 ord126 := fnOkX_mk Tryz.func126 (by kernel_rfl)
def ord127 : Nat → RHint := fun _ => default
def live127 : Nat → Nat := fun n => match n with | 0 => 3 | 1 => 3 | 2 => 0 | 3 => 16 | _ => 0
theorem fok127 : fnOkX Tryz.prog xmoves xcaps 127 Tryz.f127 ord127 := fnOkX_mk Tryz.func127 (by kernel_rfl)
def ord129 : Nat → RHint := fun n => match n with | 1 => ⟨[(0, false), (1, false), (2, false), (3, false), (5, false), (6, false), (7, false), (8, false), (10, false), (11, false), (12, false), (13, false), (15, false), (16, false), (17, false), (18, false), (19, false), (20, false), (4, true), (9, true), (14, true)], none, [], [21, 22, 23, 24]⟩ | 5 => ⟨[(0, false), (1, false), (2, false), (3, false), (4, false), (5, false), (6, false), (7, false), (8, false), (9, false)], none, [], [10, 11]⟩ | _ => default
def live129 : Nat → Nat := fun n => match n with | 0 => 12 | 1 => 44 | 2 => 108 | 3 => 549755813996 | 4 => 108 | 5 => 108 | 6 => 16 | _ => 0
theorem fok129 : fnOkX Tryz.prog xmoves xcaps 129 Tryz.f129 ord129 := fnOkX_mk Tryz.func129 (by kernel_rfl)
def ord130 : Nat → RHint := fun n => match n with | 6 => ⟨[(0, false), (1, false), (2, false), (3, false), (6, false), (4, true), (5, false)], none, [], [7]⟩ | _ => default
def live130 : Nat → Nat := fun n => match n with | 0 => 14 | 1 => 65550 | 2 => 14 | 3 => 117440526 | 4 => 251658254 | 5 => 117440718 | 6 => 117440526 | 7 => 117440526 | _ => 0
theorem fok130 : fnOkX Tryz.prog xmoves xcaps 130 Tryz.f130 ord130 := fnOkX_mk Tryz.func130 (by kernel_rfl)
def ord131 : Nat → RHint := fun _ => default
def live131 : Nat → Nat := fun n => match n with | 0 => 2 | 1 => 10 | 2 => 904 | 3 => 1928 | 4 => 936 | 5 => 904 | 6 => 904 | 7 => 4 | _ => 0
theorem fok131 : fnOkX Tryz.prog xmoves xcaps 131 Tryz.f131 ord131 := fnOkX_mk Tryz.func131 (by kernel_rfl)
def ord132 : Nat → RHint := fun _ => default
def live132 : Nat → Nat := fun n => match n with | 0 => 2 | 1 => 10 | 2 => 904 | 3 => 1928 | 4 => 936 | 5 => 904 | 6 => 904 | 7 => 4 | _ => 0
theorem fok132 : fnOkX Tryz.prog xmoves xcaps 132 Tryz.f132 ord132 := fnOkX_mk Tryz.func132 (by kernel_rfl)
def ord133 : Nat → RHint := fun _ => default
def live133 : Nat → Nat := fun n => match n with | 0 => 2 | 1 => 4 | _ => 0
theorem fok133 : fnOkX Tryz.prog xmoves xcaps 133 Tryz.f133 ord133 := fnOkX_mk Tryz.func133 (by kernel_rfl)
def ord134 : Nat → RHint := fun n => match n with | 17 => ⟨[(0, false), (1, false), (2, false), (3, false), (4, false), (5, false), (6, false), (7, false), (8, false), (9, false), (10, false), (11, false)], none, [], [12, 13, 14]⟩ | _ => default
def live134 : Nat → Nat := fun n => match n with | 0 => 271 | 1 => 783 | 2 => 1807 | 3 => 8390415 | 4 => 0 | 5 => 536872719 | 6 => 0 | 7 => 34359740175 | 8 => 1807 | 9 => 1807 | 10 => 7951 | 11 => 1125899906850575 | 12 => 3855 | 13 => 3855 | 14 => 7951 | 15 => 295147905179352829711 | 16 => 4722366482869645217551 | 17 => 154742504910672534362394383 | 18 => 8973 | 19 => 783 | 20 => 50191 | 21 => 17935 | 22 => 214543 | 23 => 475663 | 24 => 10384593717069655257060992658915855 | 25 => 17167 | 26 => 17165 | 27 => 783 | 28 => 17167 | 29 => 17163 | 30 => 783 | _ => 0
theorem fok134 : fnOkX Tryz.prog xmoves xcaps 134 Tryz.f134 ord134 := fnOkX_mk Tryz.func134 (by kernel_rfl)
def ord135 : Nat → RHint := fun _ => default
def live135 : Nat → Nat := fun n => match n with | 0 => 1 | 1 => 4 | 2 => 4 | _ => 0
theorem fok135 : fnOkX Tryz.prog xmoves xcaps 135 Tryz.f135 ord135 := fnOkX_mk Tryz.func135 (by kernel_rfl)
def ord136 : Nat → RHint := fun _ => default
def live136 : Nat → Nat := fun n => match n with | 0 => 3 | 1 => 387 | 2 => 899 | 3 => 419 | 4 => 65955 | 5 => 16 | 6 => 387 | 7 => 16 | _ => 0
theorem fok136 : fnOkX Tryz.prog xmoves xcaps 136 Tryz.f136 ord136 := fnOkX_mk Tryz.func136 (by kernel_rfl)
def ord137 : Nat → RHint := fun _ => default
def live137 : Nat → Nat := fun n => match n with | 0 => 3 | 1 => 16 | _ => 0
theorem fok137 : fnOkX Tryz.prog xmoves xcaps 137 Tryz.f137 ord137 := fnOkX_mk Tryz.func137 (by kernel_rfl)
def ord138 : Nat → RHint := fun _ => default
def live138 : Nat → Nat := fun n => match n with | 0 => 6 | 1 => 8 | _ => 0
theorem fok138 : fnOkX Tryz.prog xmoves xcaps 138 Tryz.f138 ord138 := fnOkX_mk Tryz.func138 (by kernel_rfl)
def ord139 : Nat → RHint := fun _ => default
def live139 : Nat → Nat := fun n => match n with | 0 => 1 | 1 => 17 | 2 => 4 | 3 => 4 | _ => 0
theorem fok139 : fnOkX Tryz.prog xmoves xcaps 139 Tryz.f139 ord139 := fnOkX_mk Tryz.func139 (by kernel_rfl)
def ord140 : Nat → RHint := fun _ => default
def live140 : Nat → Nat := fun n => match n with | 0 => 1 | 1 => 17 | 2 => 4 | 3 => 4 | _ => 0
theorem fok140 : fnOkX Tryz.prog xmoves xcaps 140 Tryz.f140 ord140 := fnOkX_mk Tryz.func140 (by kernel_rfl)
def ord141 : Nat → RHint := fun _ => default
def live141 : Nat → Nat := fun n => match n with | 0 => 1 | 1 => 4 | _ => 0
theorem fok141 : fnOkX Tryz.prog xmoves xcaps 141 Tryz.f141 ord141 := fnOkX_mk Tryz.func141 (by kernel_rfl)
def ord142 : Nat → RHint := fun _ => default
def live142 : Nat → Nat := fun n => match n with | 0 => 1 | 1 => 9 | 2 => 456 | 3 => 968 | 4 => 488 | 5 => 16872 | 6 => 4 | 7 => 456 | 8 => 4 | _ => 0
theorem fok142 : fnOkX Tryz.prog xmoves xcaps 142 Tryz.f142 ord142 := fnOkX_mk Tryz.func142 (by kernel_rfl)
def ord143 : Nat → RHint := fun _ => default
def live143 : Nat → Nat := fun n => match n with | 0 => 3 | 1 => 35 | 2 => 99 | 3 => 2115 | 4 => 4096 | 5 => 16 | 6 => 16 | 7 => 8195 | 8 => 16 | 9 => 65539 | 10 => 16 | 11 => 524288 | 12 => 16 | 13 => 16 | _ => 0
theorem fok143 : fnOkX Tryz.prog xmoves xcaps 143 Tryz.f143 ord143 := fnOkX_mk Tryz.func143 (by kernel_rfl)
def ord144 : Nat → RHint := fun _ => default
def live144 : Nat → Nat := fun n => match n with | 0 => 3 | 1 => 35 | 2 => 99 | 3 => 2115 | 4 => 4096 | 5 => 16 | 6 => 16 | 7 => 8195 | 8 => 16 | 9 => 65539 | 10 => 16 | 11 => 524288 | 12 => 16 | 13 => 16 | _ => 0
theorem fok144 : fnOkX Tryz.prog xmoves xcaps 144 Tryz.f144 ord144 := fnOkX_mk Tryz.func144 (by kernel_rfl)
def ord145 : Nat → RHint := fun _ => default
def live145 : Nat → Nat := fun n => match n with | 0 => 51 | 1 => 65555 | 2 => 0 | _ => 0
theorem fok145 : fnOkX Tryz.prog xmoves xcaps 145 Tryz.f145 ord145 := fnOkX_mk Tryz.func145 (by kernel_rfl)
def ord146 : Nat → RHint := fun _ => default
def live146 : Nat → Nat := fun n => match n with | 0 => 2 | 1 => 1048578 | 2 => 4 | 3 => 4194306 | 4 => 12582914 | 5 => 12582914 | 6 => 4 | 7 => 1077936130 | 8 => 4 | 9 => 4503599631564802 | 10 => 4 | 11 => 288230376155906050 | 12 => 4 | 13 => 18446744073713745922 | 14 => 4 | 15 => 1208925819614629174706178 | 16 => 4 | 17 => 4 | _ => 0
theorem fok146 : fnOkX Tryz.prog xmoves xcaps 146 Tryz.f146 ord146 := fnOkX_mk Tryz.func146 (by kernel_rfl)
def ord147 : Nat → RHint := fun _ => default
def live147 : Nat → Nat := fun n => match n with | 0 => 2 | 1 => 4 | _ => 0
theorem fok147 : fnOkX Tryz.prog xmoves xcaps 147 Tryz.f147 ord147 := fnOkX_mk Tryz.func147 (by kernel_rfl)
def ord148 : Nat → RHint := fun n => match n with | 4 => ⟨[(0, false), (1, false), (2, false), (3, false), (4, false), (5, false), (6, false), (7, false), (8, false), (9, false), (10, false), (11, false), (12, false)], none, [], [13, 14]⟩ | 6 => ⟨[], some 999999, [], []⟩ | _ => default
def live148 : Nat → Nat := fun n => match n with | 0 => 71 | 1 => 4167 | 2 => 71 | 3 => 199 | 4 => 1073742023 | 5 => 199 | 6 => 199 | _ => 0
theorem fok148 : fnOkX Tryz.prog xmoves xcaps 148 Tryz.f148 ord148 := fnOkX_mk Tryz.func148 (by kernel_rfl)
def ord149 : Nat → RHint := fun n => match n with | 10 => ⟨[], some 999999, [], []⟩ | _ => default
def live149 : Nat → Nat := fun n => match n with | 0 => 71 | 1 => 199 | 2 => 449 | 3 => 961 | 4 => 525249 | 5 => 961 | 6 => 961 | 7 => 1217 | 8 => 1073743041 | 9 => 1217 | 10 => 1217 | 11 => 1217 | _ => 0
theorem fok149 : fnOkX Tryz.prog xmoves xcaps 149 Tryz.f149 ord149 := fnOkX_mk Tryz.func149 (by kernel_rfl)
def ord150 : Nat → RHint := fun n => match n with | 10 => ⟨[], some 999999, [], []⟩ | _ => default
def live150 : Nat → Nat := fun n => match n with | 0 => 67 | 1 => 32835 | 2 => 195 | 3 => 451 | 4 => 963 | 5 => 8589935555 | 6 => 963 | 7 => 1987 | 8 => 8796093024195 | 9 => 1987 | 10 => 963 | _ => 0
theorem fok150 : fnOkX Tryz.prog xmoves xcaps 150 Tryz.f150 ord150 := fnOkX_mk Tryz.func150 (by kernel_rfl)
def ord151 : Nat → RHint := fun _ => default
def live151 : Nat → Nat := fun n => match n with | 0 => 7 | 1 => 259 | 2 => 771 | 3 => 1795 | 4 => 3843 | 5 => 7937 | 6 => 4294975233 | 7 => 17179876865 | 8 => 7681 | 9 => 7681 | 10 => 7681 | 11 => 2560 | 12 => 562949953423360 | 13 => 192 | 14 => 2814749767108608 | 15 => 192 | 16 => 18014398509484032 | 17 => 192 | _ => 0
theorem fok151 : fnOkX Tryz.prog xmoves xcaps 151 Tryz.f151 ord151 := fnOkX_mk Tryz.func151 (by kernel_rfl)
def ord152 : Nat → RHint := fun n => match n with | 3 => ⟨[], some 999999, [], []⟩ | _ => default
def live152 : Nat → Nat := fun n => match n with | 0 => 69 | 1 => 193 | 2 => 8385 | 3 => 193 | 4 => 193 | 5 => 193 | _ => 0
theorem fok152 : fnOkX Tryz.prog xmoves xcaps 152 Tryz.f152 ord152 := fnOkX_mk Tryz.func152 (by kernel_rfl)
def ord153 : Nat → RHint := fun n => match n with | 5 => ⟨[(0, false), (1, false), (2, false), (3, false), (4, false), (5, false), (6, false), (7, false), (8, false), (9, false), (10, false), (11, false), (12, false)], none, [], [13, 14, 15]⟩ | 11 => ⟨[], some 999999, [], []⟩ | 16 => ⟨[(0, false), (1, false), (2, false), (3, false), (4, false), (5, false), (6, false), (7, false), (8, false)], none, [], [9, 10]⟩ | 17 => ⟨[], some 999999, [], []⟩ | 22 => ⟨[(0, false), (1, false), (2, false), (3, false), (4, false), (5, false), (6, false), (7, false), (8, false)], none, [], [9, 10]⟩ | 23 => ⟨[], some 999999, [], []⟩ | _ => default
def live153 : Nat → Nat := fun n => match n with | 0 => 7 | 1 => 135 | 2 => 391 | 3 => 16775 | 4 => 391 | 5 => 4294967687 | 6 => 391 | 7 => 137438953863 | 8 => 64 | 9 => 2199023255943 | 10 => 64 | 11 => 391 | 12 => 2305843009213694343 | 13 => 903 | 14 => 36893488147419104135 | 15 => 903 | 16 => 302231454903657293677447 | 17 => 903 | 18 => 316912650057057350374175801735 | 19 => 1415 | 20 => 10141204801825835211973625644423 | 21 => 1415 | 22 => 83076749736557242056487941267522951 | 23 => 1415 | 24 => 64 | _ => 0
theorem fok153 : fnOkX Tryz.prog xmoves xcaps 153 Tryz.f153 ord153 := fnOkX_mk Tryz.func153 (by kernel_rfl)
def ord154 : Nat → RHint := fun _ => default
def live154 : Nat → Nat := fun n => match n with | 0 => 3 | 1 => 16 | _ => 0
theorem fok154 : fnOkX Tryz.prog xmoves xcaps 154 Tryz.f154 ord154 := fnOkX_mk Tryz.func154 (by kernel_rfl)
def ord155 : Nat → RHint := fun n => match n with | 1 => ⟨[], some 999999, [], []⟩ | 3 => ⟨[(0, false), (1, false), (2, false), (3, false), (4, false), (5, false), (6, false), (7, false), (8, false), (9, false), (10, false), (11, false)], none, [], [12, 13, 14]⟩ | 5 => ⟨[(0, false), (1, false), (2, false), (3, false), (4, false), (5, false), (6, false), (7, false), (8, false), (9, false), (10, false), (11, false)], none, [], [12, 13]⟩ | 8 => ⟨[], some 999999, [], []⟩ | _ => default
def live155 : Nat → Nat := fun n => match n with | 0 => 15 | 1 => 7 | 2 => 1539 | 3 => 8796093023747 | 4 => 1539 | 5 => 576460752303425027 | 6 => 1539 | 7 => 18446744073709553155 | 8 => 1539 | 9 => 1539 | 10 => 1539 | 11 => 256 | _ => 0
theorem fok155 : fnOkX Tryz.prog xmoves xcaps 155 Tryz.f155 ord155 := fnOkX_mk Tryz.func155 (by kernel_rfl)
def ord156 : Nat → RHint := fun n => match n with | 1 => ⟨[], some 999999, [], []⟩ | 3 => ⟨[(0, false), (1, false), (2, false), (3, false), (4, false), (5, false), (6, false), (7, false), (8, false), (9, false), (10, false), (11, false)], none, [], [12, 13]⟩ | 5 => ⟨[(0, false), (1, false), (2, false), (3, false), (4, false), (5, false), (6, false), (7, false), (8, false), (9, false), (10, false), (11, false)], none, [], [12, 13, 14]⟩ | 8 => ⟨[], some 999999, [], []⟩ | 10 => ⟨[], some 999999, [], []⟩ | 13 => ⟨[(0, false), (1, false), (2, false), (3, false), (4, false), (5, false), (6, false), (7, false), (8, false), (9, false), (10, false), (11, false)], none, [], [12, 13]⟩ | 15 => ⟨[(0, false), (1, false), (2, false), (3, false), (4, false), (5, false), (6, false), (7, false), (8, false), (9, false), (10, false), (11, false)], none, [], [12, 13, 14]⟩ | 18 => ⟨[], some 999999, [], []⟩ | 21 => ⟨[], some 999999, [], []⟩ | _ => default
def live156 : Nat → Nat := fun n => match n with | 0 => 15 | 1 => 7 | 2 => 3075 | 3 => 8796093025283 | 4 => 3075 | 5 => 1152921504606850051 | 6 => 3075 | 7 => 36893488147419106307 | 8 => 2048 | 9 => 768 | 10 => 3075 | 11 => 3075 | 12 => 3075 | 13 => 5192296858534827628530496329223171 | 14 => 3075 | 15 => 680564733841876926926749214863536425987 | 16 => 3075 | 17 => 21778071482940061661655974875633165536259 | 18 => 3075 | 19 => 3075 | 20 => 3075 | 21 => 2048 | 22 => 768 | _ => 0
theorem fok156 : fnOkX Tryz.prog xmoves xcaps 156 Tryz.f156 ord156 := fnOkX_mk Tryz.func156 (by kernel_rfl)
def ord157 : Nat → RHint := fun _ => default
def live157 : Nat → Nat := fun n => match n with | 0 => 5 | 1 => 21 | 2 => 1 | 3 => 5 | 4 => 261 | 5 => 5 | 6 => 5 | 7 => 4 | _ => 0
theorem fok157 : fnOkX Tryz.prog xmoves xcaps 157 Tryz.f157 ord157 := fnOkX_mk Tryz.func157 (by kernel_rfl)
def ord158 : Nat → RHint := fun _ => default
def live158 : Nat → Nat := fun n => match n with | 0 => 3 | 1 => 387 | 2 => 899 | 3 => 419 | 4 => 65955 | 5 => 16 | 6 => 387 | 7 => 16 | _ => 0
theorem fok158 : fnOkX Tryz.prog xmoves xcaps 158 Tryz.f158 ord158 := fnOkX_mk Tryz.func158 (by kernel_rfl)
def ord159 : Nat → RHint := fun _ => default
def live159 : Nat → Nat := fun n => match n with | 0 => 1 | 1 => 4 | _ => 0
theorem fok159 : fnOkX Tryz.prog xmoves xcaps 159 Tryz.f159 ord159 := fnOkX_mk Tryz.func159 (by kernel_rfl)
def ord160 : Nat → RHint := fun _ => default
def live160 : Nat → Nat := fun n => match n with | 0 => 1 | 1 => 4 | _ => 0
theorem fok160 : fnOkX Tryz.prog xmoves xcaps 160 Tryz.f160 ord160 := fnOkX_mk Tryz.func160 (by kernel_rfl)
def ord161 : Nat → RHint := fun _ => default
def live161 : Nat → Nat := fun n => match n with | 0 => 3 | 1 => 67 | 2 => 451 | 3 => 33219 | 4 => 963 | 5 => 134218691 | 6 => 451 | 7 => 451 | 8 => 48 | _ => 0
theorem fok161 : fnOkX Tryz.prog xmoves xcaps 161 Tryz.f161 ord161 := fnOkX_mk Tryz.func161 (by kernel_rfl)
def ord162 : Nat → RHint := fun n => match n with | 11 => ⟨[(0, false), (1, false), (2, false), (3, false), (4, false), (5, false), (6, false), (7, false)], none, [], [8]⟩ | 15 => ⟨[(0, false), (1, false), (2, false), (3, false), (4, false), (5, false), (6, false), (7, false)], none, [], [8]⟩ | _ => default
def live162 : Nat → Nat := fun n => match n with | 0 => 7 | 1 => 7 | 2 => 135 | 3 => 65671 | 4 => 64 | 5 => 391 | 6 => 4194695 | 7 => 64 | 8 => 2147484039 | 9 => 647 | 10 => 643 | 11 => 512 | 12 => 64 | 13 => 391 | 14 => 295147905179352826247 | 15 => 7 | 16 => 1 | 17 => 64 | 18 => 131 | 19 => 1 | 20 => 64 | _ => 0
theorem fok162 : fnOkX Tryz.prog xmoves xcaps 162 Tryz.f162 ord162 := fnOkX_mk Tryz.func162 (by kernel_rfl)
def ord163 : Nat → RHint := fun _ => default
def live163 : Nat → Nat := fun n => match n with | 0 => 2 | 1 => 4 | _ => 0
theorem fok163 : fnOkX Tryz.prog xmoves xcaps 163 Tryz.f163 ord163 := fnOkX_mk Tryz.func163 (by kernel_rfl)
def ord164 : Nat → RHint := fun n => match n with | 6 => ⟨[(0, false), (1, false), (2, false), (3, false), (4, true), (5, false)], none, [], [6, 7]⟩ | _ => default
def live164 : Nat → Nat := fun n => match n with | 0 => 6 | 1 => 32774 | 2 => 16 | 3 => 917510 | 4 => 1966086 | 5 => 917606 | 6 => 2148401158 | 7 => 16 | 8 => 917510 | 9 => 16 | _ => 0
theorem fok164 : fnOkX Tryz.prog xmoves xcaps 164 Tryz.f164 ord164 := fnOkX_mk Tryz.func164 (by kernel_rfl)
def ord165 : Nat → RHint := fun n => match n with | 3 => ⟨[(0, false), (1, false), (2, false), (3, false), (4, false), (5, false), (6, false), (7, false), (8, false), (9, false), (10, false), (11, false), (12, false), (13, false), (14, false), (15, false), (16, false), (17, false)], none, [], [18, 19]⟩ | 5 => ⟨[(0, false), (1, false), (2, false), (3, false), (4, false), (5, false), (6, false), (7, false), (8, false), (9, false), (10, false), (11, false)], none, [], [12, 13]⟩ | 6 => ⟨[], some 999999, [], []⟩ | _ => default
def live165 : Nat → Nat := fun n => match n with | 0 => 269 | 1 => 781 | 2 => 66317 | 3 => 68719477517 | 4 => 781 | 5 => 4503599627371277 | 6 => 525 | 7 => 269 | _ => 0
theorem fok165 : fnOkX Tryz.prog xmoves xcaps 165 Tryz.f165 ord165 := fnOkX_mk Tryz.func165 (by kernel_rfl)
def ord166 : Nat → RHint := fun _ => default
def live166 : Nat → Nat := fun n => match n with | 0 => 1 | 1 => 4 | _ => 0
theorem fok166 : fnOkX Tryz.prog xmoves xcaps 166 Tryz.f166 ord166 := fnOkX_mk Tryz.func166 (by kernel_rfl)
def ord167 : Nat → RHint := fun n => match n with | 1 => ⟨[(0, false), (1, false), (2, false), (3, false), (4, false), (5, false), (6, false), (7, false), (8, false)], none, [], [9]⟩ | 2 => ⟨[(0, false), (1, false), (2, false), (3, false), (4, false), (5, false), (6, false), (7, false), (8, false)], none, [], [9]⟩ | 3 => ⟨[(0, false), (1, false), (2, false), (3, false), (4, false), (5, false), (6, false), (7, false), (8, false)], none, [], [9]⟩ | _ => default
def live167 : Nat → Nat := fun n => match n with | 0 => 1 | 1 => 1 | 2 => 1 | 3 => 1 | 4 => 4 | _ => 0
theorem fok167 : fnOkX Tryz.prog xmoves xcaps 167 Tryz.f167 ord167 := fnOkX_mk Tryz.func167 (by kernel_rfl)
def ord168 : Nat → RHint := fun _ => default
def live168 : Nat → Nat := fun n => match n with | 0 => 7 | 1 => 64 | _ => 0
theorem fok168 : fnOkX Tryz.prog xmoves xcaps 168 Tryz.f168 ord168 := fnOkX_mk Tryz.func168 (by kernel_rfl)
def ord169 : Nat → RHint := fun _ => default
def live169 : Nat → Nat := fun n => match n with | 0 => 31 | 1 => 31 | 2 => 23 | 3 => 4 | 4 => 1024 | _ => 0
theorem fok169 : fnOkX Tryz.prog xmoves xcaps 169 Tryz.f169 ord169 := fnOkX_mk Tryz.func169 (by kernel_rfl)
def ord170 : Nat → RHint := fun _ => default
def live170 : Nat → Nat := fun n => match n with | 0 => 1 | 1 => 4 | _ => 0
theorem fok170 : fnOkX Tryz.prog xmoves xcaps 170 Tryz.f170 ord170 := fnOkX_mk Tryz.func170 (by kernel_rfl)
def ord172 : Nat → RHint := fun _ => default
def live172 : Nat → Nat := fun n => match n with | 0 => 0 | _ => 0
theorem fok172 : fnOkX Tryz.prog xmoves xcaps 172 Tryz.f172 ord172 := fnOkX_mk Tryz.func172 (by kernel_rfl)
def ord173 : Nat → RHint := fun _ => default
def live173 : Nat → Nat := fun n => match n with | 0 => 2 | 1 => 4 | _ => 0
theorem fok173 : fnOkX Tryz.prog xmoves xcaps 173 Tryz.f173 ord173 := fnOkX_mk Tryz.func173 (by kernel_rfl)
def ord174 : Nat → RHint := fun _ => default
def live174 : Nat → Nat := fun n => match n with | 0 => 2 | 1 => 4 | _ => 0
theorem fok174 : fnOkX Tryz.prog xmoves xcaps 174 Tryz.f174 ord174 := fnOkX_mk Tryz.func174 (by kernel_rfl)
def ord175 : Nat → RHint := fun n => match n with | 1 => ⟨[(0, false), (1, false), (2, false), (3, false), (4, false), (5, false), (6, false), (7, false)], none, [], [8]⟩ | _ => default
def live175 : Nat → Nat := fun n => match n with | 0 => 15 | 1 => 262158 | 2 => 6 | 3 => 768 | 4 => 768 | _ => 0
theorem fok175 : fnOkX Tryz.prog xmoves xcaps 175 Tryz.f175 ord175 := fnOkX_mk Tryz.func175 (by kernel_rfl)
def ord176 : Nat → RHint := fun _ => default
def live176 : Nat → Nat := fun n => match n with | 0 => 3 | 1 => 1 | 2 => 0 | _ => 0
theorem fok176 : fnOkX Tryz.prog xmoves xcaps 176 Tryz.f176 ord176 := fnOkX_mk Tryz.func176 (by kernel_rfl)
def ord177 : Nat → RHint := fun n => match n with | 3 => ⟨[], some 999999, [], []⟩ | _ => default
def live177 : Nat → Nat := fun n => match n with | 0 => 13 | 1 => 525 | 2 => 13 | 3 => 13 | _ => 0
theorem fok177 : fnOkX Tryz.prog xmoves xcaps 177 Tryz.f177 ord177 := fnOkX_mk Tryz.func177 (by kernel_rfl)
def ord205 : Nat → RHint := fun _ => default
def live205 : Nat → Nat := fun n => match n with | 0 => 0 | 1 => 0 | 2 => 0 | 3 => 0 | 4 => 0 | 5 => 0 | _ => 0
theorem fok205 : fnOkX Tryz.prog xmoves xcaps 205 Tryz.f205 ord205 := fnOkX_mk Tryz.func205 (by kernel_rfl)
noncomputable def ftab : FTr := (.node (.node (.node (.node (.node (.node (.node (.node .nil 2 Tryz.f2 ord2 live2 .nil) 3 Tryz.f3 ord3 live3 .nil) 4 Tryz.f4 ord4 live4 (.node (.node .nil 5 Tryz.f5 ord5 live5 .nil) 6 Tryz.f6 ord6 live6 .nil)) 7 Tryz.f7 ord7 live7 (.node (.node (.node .nil 8 Tryz.f8 ord8 live8 .nil) 9 Tryz.f9 ord9 live9 .nil) 10 Tryz.f10 ord10 live10 (.node .nil 11 Tryz.f11 ord11 live11 .nil))) 12 Tryz.f12 ord12 live12 (.node (.node (.node (.node .nil 13 Tryz.f13 ord13 live13 .nil) 14 Tryz.f14 ord14 live14 .nil) 15 Tryz.f15 ord15 live15 (.node (.node .nil 16 Tryz.f16 ord16 live16 .nil) 17 Tryz.f17 ord17 live17 .nil)) 18 Tryz.f18 ord18 live18 (.node (.node (.node .nil 19 Tryz.f19 ord19 live19 .nil) 20 Tryz.f20 ord20 live20 .nil) 21 Tryz.f21 ord21 live21 (.node .nil 22 Tryz.f22 ord22 live22 .nil)))) 23 Tryz.f23 ord23 live23 (.node (.node (.node (.node (.node .nil 24 Tryz.f24 ord24 live24 .nil) 25 Tryz.f25 ord25 live25 .nil) 26 Tryz.f26 ord26 live26 (.node (.node .nil 27 Tryz.f27 ord27 live27 .nil) 28 Tryz.f28 ord28 live28 .nil)) 29 Tryz.f29 ord29 live29 (.node (.node (.node .nil 30 Tryz.f30 ord30 live30 .nil) 31 Tryz.f31 ord31 live31 .nil) 32 Tryz.f32 ord32 live32 (.node .nil 33 Tryz.f33 ord33 live33 .nil))) 34 Tryz.f34 ord34 live34 (.node (.node (.node (.node .nil 35 Tryz.f35 ord35 live35 .nil) 36 Tryz.f36 ord36 live36 .nil) 37 Tryz.f37 ord37 live37 (.node (.node .nil 38 Tryz.f38 ord38 live38 .nil) 39 Tryz.f39 ord39 live39 .nil)) 40 Tryz.f40 ord40 live40 (.node (.node (.node .nil 41 Tryz.f41 ord41 live41 .nil) 42 Tryz.f42 ord42 live42 .nil) 43 Tryz.f43 ord43 live43 (.node .nil 44 Tryz.f44 ord44 live44 .nil))))) 45 Tryz.f45 ord45 live45 (.node (.node (.node (.node (.node (.node .nil 46 Tryz.f46 ord46 live46 .nil) 47 Tryz.f47 ord47 live47 .nil) 48 Tryz.f48 ord48 live48 (.node (.node .nil 49 Tryz.f49 ord49 live49 .nil) 50 Tryz.f50 ord50 live50 .nil)) 51 Tryz.f51 ord51 live51 (.node (.node (.node .nil 52 Tryz.f52 ord52 live52 .nil) 53 Tryz.f53 ord53 live53 .nil) 54 Tryz.f54 ord54 live54 (.node .nil 55 Tryz.f55 ord55 live55 .nil))) 56 Tryz.f56 ord56 live56 (.node (.node (.node (.node .nil 57 Tryz.f57 ord57 live57 .nil) 58 Tryz.f58 ord58 live58 .nil) 59 Tryz.f59 ord59 live59 (.node (.node .nil 60 Tryz.f60 ord60 live60 .nil) 61 Tryz.f61 ord61 live61 .nil)) 62 Tryz.f62 ord62 live62 (.node (.node (.node .nil 63 Tryz.f63 ord63 live63 .nil) 64 Tryz.f64 ord64 live64 .nil) 65 Tryz.f65 ord65 live65 (.node .nil 66 Tryz.f66 ord66 live66 .nil)))) 67 Tryz.f67 ord67 live67 (.node (.node (.node (.node (.node .nil 68 Tryz.f68 ord68 live68 .nil) 70 Tryz.f70 ord70 live70 .nil) 71 Tryz.f71 ord71 live71 (.node (.node .nil 72 Tryz.f72 ord72 live72 .nil) 73 Tryz.f73 ord73 live73 .nil)) 74 Tryz.f74 ord74 live74 (.node (.node (.node .nil 75 Tryz.f75 ord75 live75 .nil) 76 Tryz.f76 ord76 live76 .nil) 77 Tryz.f77 ord77 live77 (.node .nil 78 Tryz.f78 ord78 live78 .nil))) 79 Tryz.f79 ord79 live79 (.node (.node (.node (.node .nil 81 Tryz.f81 ord81 live81 .nil) 82 Tryz.f82 ord82 live82 .nil) 83 Tryz.f83 ord83 live83 (.node .nil 84 Tryz.f84 ord84 live84 .nil)) 85 Tryz.f85 ord85 live85 (.node (.node (.node .nil 86 Tryz.f86 ord86 live86 .nil) 87 Tryz.f87 ord87 live87 .nil) 88 Tryz.f88 ord88 live88 (.node .nil 89 Tryz.f89 ord89 live89 .nil)))))) 90 Tryz.f90 ord90 live90 (.node (.node (.node (.node (.node (.node (.node .nil 91 Tryz.f91 ord91 live91 .nil) 92 Tryz.f92 ord92 live92 .nil) 93 Tryz.f93 ord93 live93 (.node (.node .nil 94 Tryz.f94 ord94 live94 .nil) 95 Tryz.f95 ord95 live95 .nil)) 96 Tryz.f96 ord96 live96 (.node (.node (.node .nil 97 Tryz.f97 ord97 live97 .nil) 98 Tryz.f98 ord98 live98 .nil) 99 Tryz.f99 ord99 live99 (.node .nil 100 Tryz.f100 ord100 live100 .nil))) 101 Tryz.f101 ord101 live101 (.node (.node (.node (.node .nil 102 Tryz.f102 ord102 live102 .nil) 103 Tryz.f103 ord103 live103 .nil) 104 Tryz.f104 ord104 live104 (.node (.node .nil 105 Tryz.f105 ord105 live105 .nil) 106 Tryz.f106 ord106 live106 .nil)) 107 Tryz.f107 ord107 live107 (.node (.node (.node .nil 108 Tryz.f108 ord108 live108 .nil) 109 Tryz.f109 ord109 live109 .nil) 110 Tryz.f110 ord110 live110 (.node .nil 111 Tryz.f111 ord111 live111 .nil)))) 112 Tryz.f112 ord112 live112 (.node (.node (.node (.node (.node .nil 113 Tryz.f113 ord113 live113 .nil) 114 Tryz.f114 ord114 live114 .nil) 115 Tryz.f115 ord115 live115 (.node (.node .nil 116 Tryz.f116 ord116 live116 .nil) 117 Tryz.f117 ord117 live117 .nil)) 118 Tryz.f118 ord118 live118 (.node (.node (.node .nil 119 Tryz.f119 ord119 live119 .nil) 120 Tryz.f120 ord120 live120 .nil) 121 Tryz.f121 ord121 live121 (.node .nil 122 Tryz.f122 ord122 live122 .nil))) 123 Tryz.f123 ord123 live123 (.node (.node (.node (.node .nil 124 Tryz.f124 ord124 live124 .nil) 125 Tryz.f125 ord125 live125 .nil) 126 Tryz.f126 ord126 live126 (.node (.node .nil 127 Tryz.f127 ord127 live127 .nil) 129 Tryz.f129 ord129 live129 .nil)) 130 Tryz.f130 ord130 live130 (.node (.node (.node .nil 131 Tryz.f131 ord131 live131 .nil) 132 Tryz.f132 ord132 live132 .nil) 133 Tryz.f133 ord133 live133 (.node .nil 134 Tryz.f134 ord134 live134 .nil))))) 135 Tryz.f135 ord135 live135 (.node (.node (.node (.node (.node (.node .nil 136 Tryz.f136 ord136 live136 .nil) 137 Tryz.f137 ord137 live137 .nil) 138 Tryz.f138 ord138 live138 (.node (.node .nil 139 Tryz.f139 ord139 live139 .nil) 140 Tryz.f140 ord140 live140 .nil)) 141 Tryz.f141 ord141 live141 (.node (.node (.node .nil 142 Tryz.f142 ord142 live142 .nil) 143 Tryz.f143 ord143 live143 .nil) 144 Tryz.f144 ord144 live144 (.node .nil 145 Tryz.f145 ord145 live145 .nil))) 146 Tryz.f146 ord146 live146 (.node (.node (.node (.node .nil 147 Tryz.f147 ord147 live147 .nil) 148 Tryz.f148 ord148 live148 .nil) 149 Tryz.f149 ord149 live149 (.node (.node .nil 150 Tryz.f150 ord150 live150 .nil) 151 Tryz.f151 ord151 live151 .nil)) 152 Tryz.f152 ord152 live152 (.node (.node (.node .nil 153 Tryz.f153 ord153 live153 .nil) 154 Tryz.f154 ord154 live154 .nil) 155 Tryz.f155 ord155 live155 (.node .nil 156 Tryz.f156 ord156 live156 .nil)))) 157 Tryz.f157 ord157 live157 (.node (.node (.node (.node (.node .nil 158 Tryz.f158 ord158 live158 .nil) 159 Tryz.f159 ord159 live159 .nil) 160 Tryz.f160 ord160 live160 (.node (.node .nil 161 Tryz.f161 ord161 live161 .nil) 162 Tryz.f162 ord162 live162 .nil)) 163 Tryz.f163 ord163 live163 (.node (.node (.node .nil 164 Tryz.f164 ord164 live164 .nil) 165 Tryz.f165 ord165 live165 .nil) 166 Tryz.f166 ord166 live166 (.node .nil 167 Tryz.f167 ord167 live167 .nil))) 168 Tryz.f168 ord168 live168 (.node (.node (.node (.node .nil 169 Tryz.f169 ord169 live169 .nil) 170 Tryz.f170 ord170 live170 .nil) 172 Tryz.f172 ord172 live172 (.node .nil 173 Tryz.f173 ord173 live173 .nil)) 174 Tryz.f174 ord174 live174 (.node (.node (.node .nil 175 Tryz.f175 ord175 live175 .nil) 176 Tryz.f176 ord176 live176 .nil) 177 Tryz.f177 ord177 live177 (.node .nil 205 Tryz.f205 ord205 live205 .nil)))))))
theorem ftab_ok : FOk Tryz.prog xmoves xcaps ftab.find := FTr.ok (FTr.all_node (FTr.all_node (FTr.all_node (FTr.all_node (FTr.all_node (FTr.all_node (FTr.all_node (FTr.all_node FTr.all_nil fok2 FTr.all_nil) fok3 FTr.all_nil) fok4 (FTr.all_node (FTr.all_node FTr.all_nil fok5 FTr.all_nil) fok6 FTr.all_nil)) fok7 (FTr.all_node (FTr.all_node (FTr.all_node FTr.all_nil fok8 FTr.all_nil) fok9 FTr.all_nil) fok10 (FTr.all_node FTr.all_nil fok11 FTr.all_nil))) fok12 (FTr.all_node (FTr.all_node (FTr.all_node (FTr.all_node FTr.all_nil fok13 FTr.all_nil) fok14 FTr.all_nil) fok15 (FTr.all_node (FTr.all_node FTr.all_nil fok16 FTr.all_nil) fok17 FTr.all_nil)) fok18 (FTr.all_node (FTr.all_node (FTr.all_node FTr.all_nil fok19 FTr.all_nil) fok20 FTr.all_nil) fok21 (FTr.all_node FTr.all_nil fok22 FTr.all_nil)))) fok23 (FTr.all_node (FTr.all_node (FTr.all_node (FTr.all_node (FTr.all_node FTr.all_nil fok24 FTr.all_nil) fok25 FTr.all_nil) fok26 (FTr.all_node (FTr.all_node FTr.all_nil fok27 FTr.all_nil) fok28 FTr.all_nil)) fok29 (FTr.all_node (FTr.all_node (FTr.all_node FTr.all_nil fok30 FTr.all_nil) fok31 FTr.all_nil) fok32 (FTr.all_node FTr.all_nil fok33 FTr.all_nil))) fok34 (FTr.all_node (FTr.all_node (FTr.all_node (FTr.all_node FTr.all_nil fok35 FTr.all_nil) fok36 FTr.all_nil) fok37 (FTr.all_node (FTr.all_node FTr.all_nil fok38 FTr.all_nil) fok39 FTr.all_nil)) fok40 (FTr.all_node (FTr.all_node (FTr.all_node FTr.all_nil fok41 FTr.all_nil) fok42 FTr.all_nil) fok43 (FTr.all_node FTr.all_nil fok44 FTr.all_nil))))) fok45 (FTr.all_node (FTr.all_node (FTr.all_node (FTr.all_node (FTr.all_node (FTr.all_node FTr.all_nil fok46 FTr.all_nil) fok47 FTr.all_nil) fok48 (FTr.all_node (FTr.all_node FTr.all_nil fok49 FTr.all_nil) fok50 FTr.all_nil)) fok51 (FTr.all_node (FTr.all_node (FTr.all_node FTr.all_nil fok52 FTr.all_nil) fok53 FTr.all_nil) fok54 (FTr.all_node FTr.all_nil fok55 FTr.all_nil))) fok56 (FTr.all_node (FTr.all_node (FTr.all_node (FTr.all_node FTr.all_nil fok57 FTr.all_nil) fok58 FTr.all_nil) fok59 (FTr.all_node (FTr.all_node FTr.all_nil fok60 FTr.all_nil) fok61 FTr.all_nil)) fok62 (FTr.all_node (FTr.all_node (FTr.all_node FTr.all_nil fok63 FTr.all_nil) fok64 FTr.all_nil) fok65 (FTr.all_node FTr.all_nil fok66 FTr.all_nil)))) fok67 (FTr.all_node (FTr.all_node (FTr.all_node (FTr.all_node (FTr.all_node FTr.all_nil fok68 FTr.all_nil) fok70 FTr.all_nil) fok71 (FTr.all_node (FTr.all_node FTr.all_nil fok72 FTr.all_nil) fok73 FTr.all_nil)) fok74 (FTr.all_node (FTr.all_node (FTr.all_node FTr.all_nil fok75 FTr.all_nil) fok76 FTr.all_nil) fok77 (FTr.all_node FTr.all_nil fok78 FTr.all_nil))) fok79 (FTr.all_node (FTr.all_node (FTr.all_node (FTr.all_node FTr.all_nil fok81 FTr.all_nil) fok82 FTr.all_nil) fok83 (FTr.all_node FTr.all_nil fok84 FTr.all_nil)) fok85 (FTr.all_node (FTr.all_node (FTr.all_node FTr.all_nil fok86 FTr.all_nil) fok87 FTr.all_nil) fok88 (FTr.all_node FTr.all_nil fok89 FTr.all_nil)))))) fok90 (FTr.all_node (FTr.all_node (FTr.all_node (FTr.all_node (FTr.all_node (FTr.all_node (FTr.all_node FTr.all_nil fok91 FTr.all_nil) fok92 FTr.all_nil) fok93 (FTr.all_node (FTr.all_node FTr.all_nil fok94 FTr.all_nil) fok95 FTr.all_nil)) fok96 (FTr.all_node (FTr.all_node (FTr.all_node FTr.all_nil fok97 FTr.all_nil) fok98 FTr.all_nil) fok99 (FTr.all_node FTr.all_nil fok100 FTr.all_nil))) fok101 (FTr.all_node (FTr.all_node (FTr.all_node (FTr.all_node FTr.all_nil fok102 FTr.all_nil) fok103 FTr.all_nil) fok104 (FTr.all_node (FTr.all_node FTr.all_nil fok105 FTr.all_nil) fok106 FTr.all_nil)) fok107 (FTr.all_node (FTr.all_node (FTr.all_node FTr.all_nil fok108 FTr.all_nil) fok109 FTr.all_nil) fok110 (FTr.all_node FTr.all_nil fok111 FTr.all_nil)))) fok112 (FTr.all_node (FTr.all_node (FTr.all_node (FTr.all_node (FTr.all_node FTr.all_nil fok113 FTr.all_nil) fok114 FTr.all_nil) fok115 (FTr.all_node (FTr.all_node FTr.all_nil fok116 FTr.all_nil) fok117 FTr.all_nil)) fok118 (FTr.all_node (FTr.all_node (FTr.all_node FTr.all_nil fok119 FTr.all_nil) fok120 FTr.all_nil) fok121 (FTr.all_node FTr.all_nil fok122 FTr.all_nil))) fok123 (FTr.all_node (FTr.all_node (FTr.all_node (FTr.all_node FTr.all_nil fok124 FTr.all_nil) fok125 FTr.all_nil) fok126 (FTr.all_node (FTr.all_node FTr.all_nil fok127 FTr.all_nil) fok129 FTr.all_nil)) fok130 (FTr.all_node (FTr.all_node (FTr.all_node FTr.all_nil fok131 FTr.all_nil) fok132 FTr.all_nil) fok133 (FTr.all_node FTr.all_nil fok134 FTr.all_nil))))) fok135 (FTr.all_node (FTr.all_node (FTr.all_node (FTr.all_node (FTr.all_node (FTr.all_node FTr.all_nil fok136 FTr.all_nil) fok137 FTr.all_nil) fok138 (FTr.all_node (FTr.all_node FTr.all_nil fok139 FTr.all_nil) fok140 FTr.all_nil)) fok141 (FTr.all_node (FTr.all_node (FTr.all_node FTr.all_nil fok142 FTr.all_nil) fok143 FTr.all_nil) fok144 (FTr.all_node FTr.all_nil fok145 FTr.all_nil))) fok146 (FTr.all_node (FTr.all_node (FTr.all_node (FTr.all_node FTr.all_nil fok147 FTr.all_nil) fok148 FTr.all_nil) fok149 (FTr.all_node (FTr.all_node FTr.all_nil fok150 FTr.all_nil) fok151 FTr.all_nil)) fok152 (FTr.all_node (FTr.all_node (FTr.all_node FTr.all_nil fok153 FTr.all_nil) fok154 FTr.all_nil) fok155 (FTr.all_node FTr.all_nil fok156 FTr.all_nil)))) fok157 (FTr.all_node (FTr.all_node (FTr.all_node (FTr.all_node (FTr.all_node FTr.all_nil fok158 FTr.all_nil) fok159 FTr.all_nil) fok160 (FTr.all_node (FTr.all_node FTr.all_nil fok161 FTr.all_nil) fok162 FTr.all_nil)) fok163 (FTr.all_node (FTr.all_node (FTr.all_node FTr.all_nil fok164 FTr.all_nil) fok165 FTr.all_nil) fok166 (FTr.all_node FTr.all_nil fok167 FTr.all_nil))) fok168 (FTr.all_node (FTr.all_node (FTr.all_node (FTr.all_node FTr.all_nil fok169 FTr.all_nil) fok170 FTr.all_nil) fok172 (FTr.all_node FTr.all_nil fok173 FTr.all_nil)) fok174 (FTr.all_node (FTr.all_node (FTr.all_node FTr.all_nil fok175 FTr.all_nil) fok176 FTr.all_nil) fok177 (FTr.all_node FTr.all_nil fok205 FTr.all_nil)))))))
end Go.Proofs.YtohkjddpblocoaaGreatDoor
