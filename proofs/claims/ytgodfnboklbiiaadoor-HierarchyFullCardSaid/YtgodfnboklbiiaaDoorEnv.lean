/- The table of types of the program, for the generic layer. Made by genenv.py. -/
import Derived.Test.YtgodfnboklbiiaaDoorProg
import Derived.Test.YtgodfnboklbiiaaDoorTpRun
import Derived.KernelRfl
namespace Go.Proofs.YtgodfnboklbiiaaDoor
open Go.Tp

theorem tok2 : TI.ok Tryd.prog 2 ⟨.int .i64, 1, 8, .int .i64 0⟩ := ⟨⟨Tryd.t2, by kernel_rfl, rfl, rfl, rfl, rfl⟩, Tryd.underlying2⟩
theorem tok3 : TI.ok Tryd.prog 3 ⟨.int .i64, 1, 8, .int .i64 0⟩ := ⟨⟨Tryd.t3, by kernel_rfl, rfl, rfl, rfl, rfl⟩, Tryd.underlying3⟩
theorem tok4 : TI.ok Tryd.prog 4 ⟨.bool, 1, 1, .bool false⟩ := ⟨⟨Tryd.t4, by kernel_rfl, rfl, rfl, rfl, rfl⟩, Tryd.underlying4⟩
theorem tok5 : TI.ok Tryd.prog 5 ⟨.int .u8, 1, 1, .int .u8 0⟩ := ⟨⟨Tryd.t5, by kernel_rfl, rfl, rfl, rfl, rfl⟩, Tryd.underlying5⟩
theorem tok9 : TI.ok Tryd.prog 9 ⟨.string, 1, 16, .string ⟨#[]⟩⟩ := ⟨⟨Tryd.t9, by kernel_rfl, rfl, rfl, rfl, rfl⟩, Tryd.underlying9⟩
theorem tok22 : TI.ok Tryd.prog 22 ⟨.pointer, 1, 8, .pointer none⟩ := ⟨⟨Tryd.t22, by kernel_rfl, rfl, rfl, rfl, rfl⟩, ⟨_, Tryd.underlying22⟩⟩
theorem tok26 : TI.ok Tryd.prog 26 ⟨.int .i64, 1, 8, .int .i64 0⟩ := ⟨⟨Tryd.t26, by kernel_rfl, rfl, rfl, rfl, rfl⟩, Tryd.underlying26⟩
theorem tok29 : TI.ok Tryd.prog 29 ⟨.slice 31, 1, 24, .slice none 0 0⟩ := ⟨⟨Tryd.t29, by kernel_rfl, rfl, rfl, rfl, rfl⟩, Tryd.underlying29⟩
theorem tok31 : TI.ok Tryd.prog 31 ⟨.struct [(0, 3), (1, 9), (2, 3), (3, 29)], 4, 56, .agg #[.int .i64 0, .string ⟨#[]⟩, .int .i64 0, .slice none 0 0]⟩ := ⟨⟨Tryd.t31, by kernel_rfl, rfl, rfl, rfl, rfl⟩, ⟨_, Tryd.underlying31, rfl, [(0, 1), (1, 1), (2, 1), (3, 1)], by kernel_rfl⟩⟩
theorem tok32 : TI.ok Tryd.prog 32 ⟨.slice 56, 1, 24, .slice none 0 0⟩ := ⟨⟨Tryd.t32, by kernel_rfl, rfl, rfl, rfl, rfl⟩, Tryd.underlying32⟩
theorem tok34 : TI.ok Tryd.prog 34 ⟨.struct [(0, 9), (1, 3), (2, 31), (6, 4), (7, 32)], 8, 112, .agg #[.string ⟨#[]⟩, .int .i64 0, .int .i64 0, .string ⟨#[]⟩, .int .i64 0, .slice none 0 0, .bool false, .slice none 0 0]⟩ := ⟨⟨Tryd.t34, by kernel_rfl, rfl, rfl, rfl, rfl⟩, ⟨_, Tryd.underlying34, rfl, [(0, 1), (1, 1), (2, 4), (6, 1), (7, 1)], by kernel_rfl⟩⟩
theorem tok35 : TI.ok Tryd.prog 35 ⟨.slice 34, 1, 24, .slice none 0 0⟩ := ⟨⟨Tryd.t35, by kernel_rfl, rfl, rfl, rfl, rfl⟩, Tryd.underlying35⟩
theorem tok37 : TI.ok Tryd.prog 37 ⟨.func, 1, 8, .nilFunc⟩ := ⟨⟨Tryd.t37, by kernel_rfl, rfl, rfl, rfl, rfl⟩, ⟨_, _, _, Tryd.underlying37⟩⟩
theorem tok38 : TI.ok Tryd.prog 38 ⟨.map 9 3, 1, 8, .map none⟩ := ⟨⟨Tryd.t38, by kernel_rfl, rfl, rfl, rfl, rfl⟩, Tryd.underlying38⟩
theorem tok40 : TI.ok Tryd.prog 40 ⟨.struct [(0, 35), (1, 38)], 2, 32, .agg #[.slice none 0 0, .map none]⟩ := ⟨⟨Tryd.t40, by kernel_rfl, rfl, rfl, rfl, rfl⟩, ⟨_, Tryd.underlying40, rfl, [(0, 1), (1, 1)], by kernel_rfl⟩⟩
theorem tok41 : TI.ok Tryd.prog 41 ⟨.slice 9, 1, 24, .slice none 0 0⟩ := ⟨⟨Tryd.t41, by kernel_rfl, rfl, rfl, rfl, rfl⟩, Tryd.underlying41⟩
theorem tok52 : TI.ok Tryd.prog 52 ⟨.func, 1, 8, .nilFunc⟩ := ⟨⟨Tryd.t52, by kernel_rfl, rfl, rfl, rfl, rfl⟩, ⟨_, _, _, Tryd.underlying52⟩⟩
theorem tok56 : TI.ok Tryd.prog 56 ⟨.struct [(0, 9), (1, 31)], 5, 72, .agg #[.string ⟨#[]⟩, .int .i64 0, .string ⟨#[]⟩, .int .i64 0, .slice none 0 0]⟩ := ⟨⟨Tryd.t56, by kernel_rfl, rfl, rfl, rfl, rfl⟩, ⟨_, Tryd.underlying56, rfl, [(0, 1), (1, 4)], by kernel_rfl⟩⟩
theorem tok57 : TI.ok Tryd.prog 57 ⟨.func, 1, 8, .nilFunc⟩ := ⟨⟨Tryd.t57, by kernel_rfl, rfl, rfl, rfl, rfl⟩, ⟨_, _, _, Tryd.underlying57⟩⟩
theorem tok59 : TI.ok Tryd.prog 59 ⟨.int .u64, 1, 8, .int .u64 0⟩ := ⟨⟨Tryd.t59, by kernel_rfl, rfl, rfl, rfl, rfl⟩, Tryd.underlying59⟩
theorem tok67 : TI.ok Tryd.prog 67 ⟨.map 9 4, 1, 8, .map none⟩ := ⟨⟨Tryd.t67, by kernel_rfl, rfl, rfl, rfl, rfl⟩, Tryd.underlying67⟩
theorem tok68 : TI.ok Tryd.prog 68 ⟨.func, 1, 8, .nilFunc⟩ := ⟨⟨Tryd.t68, by kernel_rfl, rfl, rfl, rfl, rfl⟩, ⟨_, _, _, Tryd.underlying68⟩⟩
theorem tok72 : TI.ok Tryd.prog 72 ⟨.slice 5, 1, 24, .slice none 0 0⟩ := ⟨⟨Tryd.t72, by kernel_rfl, rfl, rfl, rfl, rfl⟩, Tryd.underlying72⟩
theorem tok74 : TI.ok Tryd.prog 74 ⟨.pointer, 1, 8, .pointer none⟩ := ⟨⟨Tryd.t74, by kernel_rfl, rfl, rfl, rfl, rfl⟩, ⟨_, Tryd.underlying74⟩⟩
theorem tok75 : TI.ok Tryd.prog 75 ⟨.func, 1, 8, .nilFunc⟩ := ⟨⟨Tryd.t75, by kernel_rfl, rfl, rfl, rfl, rfl⟩, ⟨_, _, _, Tryd.underlying75⟩⟩
theorem tok77 : TI.ok Tryd.prog 77 ⟨.func, 1, 8, .nilFunc⟩ := ⟨⟨Tryd.t77, by kernel_rfl, rfl, rfl, rfl, rfl⟩, ⟨_, _, _, Tryd.underlying77⟩⟩
theorem tok82 : TI.ok Tryd.prog 82 ⟨.slice 3, 1, 24, .slice none 0 0⟩ := ⟨⟨Tryd.t82, by kernel_rfl, rfl, rfl, rfl, rfl⟩, Tryd.underlying82⟩
theorem tok90 : TI.ok Tryd.prog 90 ⟨.struct [(0, 82)], 1, 24, .agg #[.slice none 0 0]⟩ := ⟨⟨Tryd.t90, by kernel_rfl, rfl, rfl, rfl, rfl⟩, ⟨_, Tryd.underlying90, rfl, [(0, 1)], by kernel_rfl⟩⟩
theorem tok92 : TI.ok Tryd.prog 92 ⟨.pointer, 1, 8, .pointer none⟩ := ⟨⟨Tryd.t92, by kernel_rfl, rfl, rfl, rfl, rfl⟩, ⟨_, Tryd.underlying92⟩⟩
theorem tok98 : TI.ok Tryd.prog 98 ⟨.int .u64, 1, 8, .int .u64 0⟩ := ⟨⟨Tryd.t98, by kernel_rfl, rfl, rfl, rfl, rfl⟩, Tryd.underlying98⟩
def tyTab : Tr := (.node (.node (.node (.node (.node .nil 2 ⟨.int .i64, 1, 8, .int .i64 0⟩ .nil) 3 ⟨.int .i64, 1, 8, .int .i64 0⟩ (.node .nil 4 ⟨.bool, 1, 1, .bool false⟩ .nil)) 5 ⟨.int .u8, 1, 1, .int .u8 0⟩ (.node (.node .nil 9 ⟨.string, 1, 16, .string ⟨#[]⟩⟩ .nil) 22 ⟨.pointer, 1, 8, .pointer none⟩ (.node .nil 26 ⟨.int .i64, 1, 8, .int .i64 0⟩ .nil))) 29 ⟨.slice 31, 1, 24, .slice none 0 0⟩ (.node (.node (.node .nil 31 ⟨.struct [(0, 3), (1, 9), (2, 3), (3, 29)], 4, 56, .agg #[.int .i64 0, .string ⟨#[]⟩, .int .i64 0, .slice none 0 0]⟩ .nil) 32 ⟨.slice 56, 1, 24, .slice none 0 0⟩ (.node .nil 34 ⟨.struct [(0, 9), (1, 3), (2, 31), (6, 4), (7, 32)], 8, 112, .agg #[.string ⟨#[]⟩, .int .i64 0, .int .i64 0, .string ⟨#[]⟩, .int .i64 0, .slice none 0 0, .bool false, .slice none 0 0]⟩ .nil)) 35 ⟨.slice 34, 1, 24, .slice none 0 0⟩ (.node (.node .nil 37 ⟨.func, 1, 8, .nilFunc⟩ .nil) 38 ⟨.map 9 3, 1, 8, .map none⟩ (.node .nil 40 ⟨.struct [(0, 35), (1, 38)], 2, 32, .agg #[.slice none 0 0, .map none]⟩ .nil)))) 41 ⟨.slice 9, 1, 24, .slice none 0 0⟩ (.node (.node (.node (.node .nil 52 ⟨.func, 1, 8, .nilFunc⟩ .nil) 56 ⟨.struct [(0, 9), (1, 31)], 5, 72, .agg #[.string ⟨#[]⟩, .int .i64 0, .string ⟨#[]⟩, .int .i64 0, .slice none 0 0]⟩ (.node .nil 57 ⟨.func, 1, 8, .nilFunc⟩ .nil)) 59 ⟨.int .u64, 1, 8, .int .u64 0⟩ (.node (.node .nil 67 ⟨.map 9 4, 1, 8, .map none⟩ .nil) 68 ⟨.func, 1, 8, .nilFunc⟩ (.node .nil 72 ⟨.slice 5, 1, 24, .slice none 0 0⟩ .nil))) 74 ⟨.pointer, 1, 8, .pointer none⟩ (.node (.node (.node .nil 75 ⟨.func, 1, 8, .nilFunc⟩ .nil) 77 ⟨.func, 1, 8, .nilFunc⟩ (.node .nil 82 ⟨.slice 3, 1, 24, .slice none 0 0⟩ .nil)) 90 ⟨.struct [(0, 82)], 1, 24, .agg #[.slice none 0 0]⟩ (.node (.node .nil 92 ⟨.pointer, 1, 8, .pointer none⟩ .nil) 98 ⟨.int .u64, 1, 8, .int .u64 0⟩ .nil))))
theorem tyTab_ok : tyTab.All Tryd.prog := (Tr.all_node (Tr.all_node (Tr.all_node (Tr.all_node (Tr.all_node Tr.all_nil tok2 Tr.all_nil) tok3 (Tr.all_node Tr.all_nil tok4 Tr.all_nil)) tok5 (Tr.all_node (Tr.all_node Tr.all_nil tok9 Tr.all_nil) tok22 (Tr.all_node Tr.all_nil tok26 Tr.all_nil))) tok29 (Tr.all_node (Tr.all_node (Tr.all_node Tr.all_nil tok31 Tr.all_nil) tok32 (Tr.all_node Tr.all_nil tok34 Tr.all_nil)) tok35 (Tr.all_node (Tr.all_node Tr.all_nil tok37 Tr.all_nil) tok38 (Tr.all_node Tr.all_nil tok40 Tr.all_nil)))) tok41 (Tr.all_node (Tr.all_node (Tr.all_node (Tr.all_node Tr.all_nil tok52 Tr.all_nil) tok56 (Tr.all_node Tr.all_nil tok57 Tr.all_nil)) tok59 (Tr.all_node (Tr.all_node Tr.all_nil tok67 Tr.all_nil) tok68 (Tr.all_node Tr.all_nil tok72 Tr.all_nil))) tok74 (Tr.all_node (Tr.all_node (Tr.all_node Tr.all_nil tok75 Tr.all_nil) tok77 (Tr.all_node Tr.all_nil tok82 Tr.all_nil)) tok90 (Tr.all_node (Tr.all_node Tr.all_nil tok92 Tr.all_nil) tok98 Tr.all_nil))))
def efn (f : Nat) : Bool := Nat.ble 3 f && Nat.ble f 94 && !(match f with | 75 => true | 79 => true | 80 => true | 81 => true | 82 => true | 83 => true | 84 => true | 85 => true | 86 => true | 87 => true | 88 => true | 89 => true | 90 => true | 91 => true | 92 => true | 93 => true | 94 => true | _ => false)
def ety (t : Nat) : Option TI := match t with
  | 0 => none
  | t => tyTab.find t
def env (pr : Prims) : TEnv := ⟨ety, efn, pr⟩
set_option maxRecDepth 100000
theorem fns_ok : (List.range 92).all (fun k => !(efn (3 + k)) || fnOk Tryd.prog (3 + k)) = true := by kernel_rfl
theorem efn_range (f : Nat) (h : efn f = true) : 3 ≤ f ∧ f ≤ 94 := by
  unfold efn at h
  simp only [Bool.and_eq_true, Nat.ble_eq] at h
  exact h.1
theorem fn_ok (f : Nat) (h : efn f = true) : fnOk Tryd.prog f = true := by
  have hb := efn_range f h
  have h1 := List.all_eq_true.1 fns_ok (f - 3) (List.mem_range.2 (by omega))
  rw [show 3 + (f - 3) = f by omega] at h1
  rw [h, Bool.not_true, Bool.false_or] at h1
  exact h1
theorem env_ok : (env Prims.std).Ok Tryd.prog where
  ty t i h := by
    have h : ety t = some i := h
    unfold ety at h
    split at h
    · simp at h
    · exact Tr.find_ok tyTab_ok h
  fn f h := by
    have h1 := fn_ok f h
    unfold fnOk at h1
    split at h1
    · rename_i g hg
      simp at h1
      exact ⟨g, hg, by simp [h1.1], by simpa using h1.2⟩
    · simp at h1
  mixed := by kernel_rfl
  std := rfl
end Go.Proofs.YtgodfnboklbiiaaDoor
