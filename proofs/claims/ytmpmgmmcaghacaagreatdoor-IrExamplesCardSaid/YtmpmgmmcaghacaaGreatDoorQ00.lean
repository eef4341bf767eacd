/- Part 0 of what the last text proves. -/
import Derived.Orders
import Derived.Laws.Cells
import Derived.Laws.World
import Derived.Laws.Rows
import Derived.Laws.Closers25b
import Derived.Laws.Sem
import Derived.Laws.BytesString
import Derived.Laws.Tables
import Derived.Great.FillDense
import Derived.Great.BuildSlice
import Derived.Laws.AppendOwn
import Derived.Deep.AppendSrc
set_option linter.unusedVariables false
set_option linter.unusedSimpArgs false
set_option maxRecDepth 100000
set_option maxHeartbeats 4000000
namespace Go.Tp
/-! ### Pure data -/
/-- Data without addresses: scalars, slices as lists of elements, structs as flattened cells. -/
inductive Dat where
 |flat (v : Value)
 |slice (es : List Dat)
 |agg (cs : List Dat)
 deriving Inhabited
def Dat.cells : Dat -> List Dat
 | .agg cs => cs
 | .flat v => [.flat v]
 | .slice es => [.slice es]
/-- A value of one cell that holds no address. -/
def isFlat : Value -> Bool
 | .int k n => decide (k.min <= n) && decide (n <= k.max)
 | .string s => decide (s.size <= 9223372036854775807)
 | .bool _ | .float _ _ | .complex _ _ _ | .pointer none | .map none | .chan none | .nilFunc | .nilIface => true
 | .iface _ v => isFlat v
 | .slice none 0 0 => true
 | _ => false
/-- No row has more room. -/
def capMax : Nat := 9223372036854775807
/-- No slice that is read has more elements. -/
def lim : Nat := 68719476736
/-- The writable cells. -/
abbrev Own := Nat -> Nat -> Prop
/-- The value of one cell reads as the datum; all that it reaches lies outside R. -/
inductive RepC (w : World) (R : Own) : Value -> Dat -> Prop
 |flat {v : Value} (h : isFlat v = true) : RepC w R v (.flat v)
 |nil (a : Option Addr) (cap : Nat) : RepC w R (.slice a 0 cap) (.slice [])
 |slice (b off cap s : Nat) (es : List Dat) (vs : Nat -> Nat -> Value) (hs : 0 < s) (hlen : ∀ e ∈ es, e.cells.length = s)
   (hcap : es.length <= cap) (hb : es.length <= lim)
   (hcell : ∀ i j, i < es.length -> j < s -> w.cell? ⟨b, off + i * s + j, none⟩ = some (vs i j) /\ ¬ R b (off + i * s + j))
   (hrep : ∀ i j (e c : Dat), es[i]? = some e -> e.cells[j]? = some c -> RepC w R (vs i j) c) :
   RepC w R (.slice (some ⟨b, off, none⟩) es.length cap) (.slice es)
/-- Cells in a row. -/
def RepCs (w : World) (R : Own) : List Value -> List Dat -> Prop
 | [], [] => True
 | v :: vs, c :: cs => RepC w R v c /\ RepCs w R vs cs
 | _, _ => False
/-- A value (of one or more cells) reads as the datum. -/
def RepD (w : World) (R : Own) (v : Value) : Dat -> Prop
 | .agg cs => ∃ vs : List Value, v = .agg vs.toArray /\ RepCs w R vs cs
 | .flat u => RepC w R v (.flat u)
 | .slice es => RepC w R v (.slice es)
/-- Immutable cells from an address on. -/
def RepAt (w : World) (R : Own) (b off : Nat) : List Dat -> Prop
 | [] => True
 | c :: cs => (∃ v, w.cell? ⟨b, off, none⟩ = some v /\ ¬ R b off /\ RepC w R v c) /\ RepAt w R b (off + 1) cs
/-- How many cells a block has. -/
def rowSize (w : World) (b : Nat) : Nat := match w.heap[b]? with | some (.cells vs _ _) => vs.size | _ => 0
/-- What is outside R stays, and stays outside. -/
structure Step (w : World) (R : Own) (w' : World) (R' : Own) : Prop where
 os : w'.os = w.os
 tape : w'.tape = w.tape
 output : w'.output = w.output
 size : w.heap.size <= w'.heap.size
 block : ∀ b, b < w.heap.size -> (∀ off, ¬ R b off) -> w'.heap[b]? = w.heap[b]? /\ ∀ off, ¬ R' b off
 cell : ∀ b off, b < w.heap.size -> ¬ R b off -> ¬ R' b off /\ w'.cell? ⟨b, off, none⟩ = w.cell? ⟨b, off, none⟩
 sizes : ∀ b, b < w.heap.size -> rowSize w' b = rowSize w b
theorem Step.refl (w : World) (R : Own) : Step w R w R :=
 ⟨rfl, rfl, rfl, Nat.le_refl _, fun _ _ h => ⟨rfl, h⟩, fun _ _ _ h => ⟨h, rfl⟩, fun _ _ => rfl⟩
theorem Step.trans {w w1 w2 : World} {R R1 R2 : Own} (h : Step w R w1 R1) (k : Step w1 R1 w2 R2) : Step w R w2 R2 where
 os := k.os.trans h.os
 tape := k.tape.trans h.tape
 output := k.output.trans h.output
 size := Nat.le_trans h.size k.size
 block b hb hR := by
  obtain ⟨e1, h1⟩ := h.block b hb hR
  obtain ⟨e2, h2⟩ := k.block b (Nat.lt_of_lt_of_le hb h.size) h1
  exact ⟨e2.trans e1, h2⟩
 cell b off hb hR := by
  obtain ⟨h1, e1⟩ := h.cell b off hb hR
  obtain ⟨h2, e2⟩ := k.cell b off (Nat.lt_of_lt_of_le hb h.size) h1
  exact ⟨h2, e2.trans e1⟩
 sizes b hb := (k.sizes b (Nat.lt_of_lt_of_le hb h.size)).trans (h.sizes b hb)
theorem lt_of_cell {w : World} {b off : Nat} {v : Value} (h : w.cell? ⟨b, off, none⟩ = some v) : b < w.heap.size :=
 block_lt_of_cell (a := ⟨b, off, none⟩) h
theorem RepC.step {w w' : World} {R R' : Own} (st : Step w R w' R') {v : Value} {d : Dat} (h : RepC w R v d) : RepC w' R' v d := by
 induction h with
 | flat h => exact .flat h
 | nil a cap => exact .nil a cap
 | slice b off cap s es vs hs hlen hcap hb hcell _ ih =>
  refine .slice b off cap s es vs hs hlen hcap hb (fun i j hi hj => ?_) ih
  obtain ⟨hc, hR⟩ := hcell i j hi hj
  obtain ⟨h1, h2⟩ := st.cell b _ (lt_of_cell hc) hR
  exact ⟨h2.trans hc, h1⟩
theorem RepCs.step {w w' : World} {R R' : Own} (st : Step w R w' R') : ∀ {vs : List Value} {cs : List Dat}, RepCs w R vs cs -> RepCs w' R' vs cs
 | [], [], _ => trivial
 | _ :: _, _ :: _, h => ⟨h.1.step st, RepCs.step st h.2⟩
 | [], _ :: _, h => h.elim
 | _ :: _, [], h => h.elim
theorem RepD.step {w w' : World} {R R' : Own} (st : Step w R w' R') {v : Value} : ∀ {d : Dat}, RepD w R v d -> RepD w' R' v d
 | .agg _, ⟨vs, e, h⟩ => ⟨vs, e, h.step st⟩
 | .flat _, h => RepC.step st h
 | .slice _, h => RepC.step st h
theorem RepAt.step {w w' : World} {R R' : Own} (st : Step w R w' R') {b : Nat} : ∀ {off : Nat} {cs : List Dat}, RepAt w R b off cs -> RepAt w' R' b off cs
 | _, [], _ => trivial
 | off, _ :: _, ⟨⟨v, hc, hR, hr⟩, ht⟩ => by
  obtain ⟨h1, h2⟩ := st.cell b off (lt_of_cell hc) hR
  exact ⟨⟨v, h2.trans hc, h1, hr.step st⟩, RepAt.step st ht⟩
/-- A package-level variable: its cells, and that there are no more. -/
def GlobAt (w : World) (R : Own) (g : Nat) (cs : List Dat) : Prop := RepAt w R g 0 cs /\ g < w.heap.size /\ rowSize w g = cs.length
theorem GlobAt.step {w w' : World} {R R' : Own} {g : Nat} {cs : List Dat} (h : GlobAt w R g cs) (st : Step w R w' R') : GlobAt w' R' g cs :=
 ⟨RepAt.step st h.1, Nat.lt_of_lt_of_le h.2.1 st.size, (st.sizes g h.2.1).trans h.2.2⟩
/-! ### Abstract values -/
/-- Names of mutable objects: of the frame (by the slot that made them), and of the rest. -/
inductive Name where
 |loc (i : Nat)
 |out (o : Nat)
 deriving DecidableEq, Inhabited
inductive AVal where
 |dat (d : Dat)
 /-- a slice whose spare capacity nobody else may write -/
 |own (es : List Dat)
 /-- a pointer to immutable cells -/
 |ref (cs : List Dat)
 |ptr (n : Name) (off : Nat)
 |map (n : Name)
 /-- a slice whose elements, of s cells each, lie in the object n from the cell off on -/
 |win (n : Name) (s off len : Nat)
 |fn (f : Fn) (first captured : List AVal)
 |agg (cs : List AVal)
 |tup (vs : List AVal)
 |undef
 deriving Inhabited
inductive AObj where
 |cells (cs : List AVal)
 |map (es : List (Value × Dat))
 deriving Inhabited
/-- A frame's state: its slots, its own objects (named by slots), the other objects, the next free name of these. -/
structure AState where
 tmps : List AVal
 locs : List (Name × AObj)
 heap : List (Name × AObj)
 next : Nat
/-- The numbers of the types uint8 and strings.Builder: a seat's own. -/
def byteId : TypeId := 5
def bldId : TypeId := 77
def isBytes : List Dat -> Bool
 | .flat (.int .u8 _) :: _ => true
 | _ => false
def isP : AVal -> Bool
 | .dat (.flat (.pointer none)) => true
 | .ptr _ _ => true
 | _ => false
/-- The cells of a strings.Builder, or of what looks like one. -/
def bldSh : List AVal -> Bool
 | [p, .own _] => isP p
 | [p, .dat (.slice _)] => isP p
 | [p, .dat (.flat (.slice none 0 0))] => isP p
 | _ => false
/-- An owned slice: nil, or a row of a block whose spare cells are writable and nobody else's. -/
inductive RepOwn (w : World) (R : Own) : Value -> List Dat -> List Nat -> Prop
 |nil : RepOwn w R (.slice none 0 0) [] []
 |row (b cap s : Nat) (es : List Dat) (vs : Array Value) (t : TypeId) (hblk : w.heap[b]? = some (.cells vs t (0, 0)))
   (hs0 : 0 < s) (hs : ∀ e ∈ es, e.cells.length = s) (hcap : es.length <= cap) (he : es = [] -> cap = 0) (hin : cap * s <= vs.size)
   (h : RepC w R (.slice (some ⟨b, 0, none⟩) es.length cap) (.slice es))
   (hsp : ∀ x, es.length * s <= x -> x < cap * s -> R b x) (hty : isBytes es = true -> t = byteId /\ ∀ x, vs.size <= x -> R b x) :
   RepOwn w R (.slice (some ⟨b, 0, none⟩) es.length cap) es [b]
/-- The stamps of a map's entries: earlier than the map's clock, and no two alike. -/
def Borns (ents : Array MapEntry) (clock : Nat) : Prop := (∀ x ∈ ents.toList, x.born < clock) /\ (ents.toList.map (·.born)).Nodup
section
variable (w : World) (R : Own) (N : Name -> Option Nat)
mutual
def RepV : AVal -> Value -> List Nat -> Prop
 | .dat d, v, bs => bs = [] /\ RepD w R v d
 | .own es, v, bs => RepOwn w R v es bs
 | .ref cs, v, bs => bs = [] /\ ∃ b off, v = .pointer (some ⟨b, off, none⟩) /\ RepAt w R b off cs
 | .ptr n off, v, bs => bs = [] /\ ∃ b, N n = some b /\ v = .pointer (some ⟨b, off, none⟩)
 | .map n, v, bs => bs = [] /\ ∃ b, N n = some b /\ v = .map (some b)
 | .win n s off len, v, bs => bs = [] /\ ∃ b cap, N n = some b /\ v = .slice (some ⟨b, off, none⟩) len cap /\ len <= cap /\ (0 < s /\ cap <= capMax) /\ b < w.heap.size /\ off + cap * s = rowSize w b
 | .fn f first captured, v, bs => bs = [] /\ ∃ vs us, v = .func f vs.toArray us.toArray /\ RepVs first vs [] /\ RepVs captured us []
 | .agg cs, v, bs => ∃ vs, v = .agg vs.toArray /\ RepVs cs vs bs
 | .tup cs, v, bs => ∃ vs, v = .tuple vs.toArray /\ RepVs cs vs bs
 | .undef, _, bs => bs = []
def RepVs : List AVal -> List Value -> List Nat -> Prop
 | [], vs, bs => vs = [] /\ bs = []
 | a :: as, vs, bs => ∃ v vs' b1 b2, vs = v :: vs' /\ bs = b1 ++ b2 /\ RepV a v b1 /\ RepVs as vs' b2
end
def RepMap : List (Value × Dat) -> List MapEntry -> Prop
 | [], es => es = []
 |(k, d) :: rest, es => ∃ e es', es = e :: es' /\ e.key = k /\ RepD w R e.val d /\ RepMap rest es'
def RepObj : AObj -> Nat -> List Nat -> Prop
 | .cells cs, b, bs => ∃ vs elem sp, w.heap[b]? = some (.cells vs elem (0, 0)) /\ RepVs w R N (cs ++ List.replicate sp .undef) vs.toList bs /\ (∀ j, j < vs.size -> R b j) /\ (bldSh cs = true -> elem = bldId /\ sp = 0)
 | .map es, b, bs => bs = [] /\ R b 0 /\ ∃ ents clock, w.heap[b]? = some (.map ents clock) /\ RepMap w R es ents.toList /\ Borns ents clock
def RepObjs : List (Name × AObj) -> List Nat -> Prop
 | [], bs => bs = []
 |(n, o) :: rest, bs => ∃ b b1 b2, bs = b :: (b1 ++ b2) /\ N n = some b /\ RepObj w R N o b b1 /\ RepObjs rest b2
end
/-- The package-level variables that are read as immutable cells. -/
abbrev Globs := Nat -> Option (List Dat)
/-- The names that are not a frame's own. -/
def outs (N : Name -> Option Nat) : Name -> Option Nat
 | .loc _ => none
 | .out o => N (.out o)
/-- The relation of a frame's state to the world, a value in hand; bsF: blocks of whoever called. -/
structure RelB (G : Globs) (w : World) (R : Own) (N : Name -> Option Nat) (tmps : List Value) (s : AState) (cv : Value) (v : AVal) (bsV bsT bsL bsH bsF : List Nat) : Prop where
 val : RepV w R N v cv bsV
 tmps : RepVs w R N s.tmps tmps bsT
 locs : RepObjs w R N s.locs bsL
 heap : RepObjs w R (outs N) s.heap bsH
 nodup : (bsV ++ (bsT ++ (bsL ++ (bsH ++ bsF)))).Nodup
 next : ∀ o b, N (.out o) = some b -> o < s.next
 glob : ∀ g cs, G g = some cs -> GlobAt w R g cs
 frame : ∀ b ∈ bsF, b < w.heap.size
/-! ### What stays under a step -/
/-- A step that leaves the blocks bs as they are. -/
structure Keep (w : World) (R : Own) (w' : World) (R' : Own) (bs : List Nat) : Prop where
 step : Step w R w' R'
 same : ∀ b ∈ bs, b < w.heap.size -> w'.heap[b]? = w.heap[b]? /\ ∀ off, R b off -> R' b off
theorem Keep.sub {w w' : World} {R R' : Own} {bs bs' : List Nat} (h : Keep w R w' R' bs) (hs : ∀ b ∈ bs', b ∈ bs) : Keep w R w' R' bs' :=
 ⟨h.step, fun b hb => h.same b (hs b hb)⟩
theorem lt_of_heap {w : World} {b : Nat} {o : Obj} (h : w.heap[b]? = some o) : b < w.heap.size := (Array.getElem?_eq_some_iff.1 h).1
theorem rowSize_of {w : World} {b : Nat} {vs : Array Value} {t : TypeId} {f : Nat × Nat} (h : w.heap[b]? = some (.cells vs t f)) : rowSize w b = vs.size := by simp [rowSize, h]
theorem rowSize_same {w w' : World} {b : Nat} (h : w'.heap[b]? = w.heap[b]?) : rowSize w' b = rowSize w b := by simp [rowSize, h]
theorem RepOwn.keep {w w' : World} {R R' : Own} {v : Value} {es : List Dat} {bs : List Nat} (h : RepOwn w R v es bs) (k : Keep w R w' R' bs) : RepOwn w' R' v es bs := by
 cases h with
 | nil => exact .nil
 | row b cap s es vs t hblk hs0 hs hcap he hin h hsp hty =>
  obtain ⟨e1, e2⟩ := k.same b (by simp) (lt_of_heap hblk)
  exact .row b cap s es vs t (e1.trans hblk) hs0 hs hcap he hin (h.step k.step) (fun x h1 h2 => e2 _ (hsp x h1 h2)) (fun hb => ⟨(hty hb).1, fun x h => e2 _ ((hty hb).2 x h)⟩)
section
variable {w w' : World} {R R' : Own} {N : Name -> Option Nat}
mutual
theorem RepV.keep : ∀ {a : AVal} {v : Value} {bs : List Nat}, RepV w R N a v bs -> Keep w R w' R' bs -> RepV w' R' N a v bs
 | .dat _, _, _, h, k => by simp only [RepV] at h ⊢; exact ⟨h.1, h.2.step k.step⟩
 | .own _, _, _, h, k => by simp only [RepV] at h ⊢; exact h.keep k
 | .ref _, _, _, h, k => by
  simp only [RepV] at h ⊢
  obtain ⟨h1, b, off, e, h2⟩ := h
  exact ⟨h1, b, off, e, h2.step k.step⟩
 | .ptr _ _, _, _, h, _ => by simp only [RepV] at h ⊢; exact h
 | .map _, _, _, h, _ => by simp only [RepV] at h ⊢; exact h
 | .win _ _ _ _, _, _, h, k => by
  simp only [RepV] at h ⊢
  obtain ⟨h1, b, cap, h2, h3, h4, h5, h6, h7⟩ := h
  exact ⟨h1, b, cap, h2, h3, h4, h5, Nat.lt_of_lt_of_le h6 k.step.size, by rw [k.step.sizes b h6]; exact h7⟩
 | .fn _ first captured, _, _, h, k => by
  simp only [RepV] at h ⊢
  obtain ⟨h1, vs, us, e, h2, h3⟩ := h
  have k0 : Keep w R w' R' [] := k.sub (by simp)
  exact ⟨h1, vs, us, e, RepVs.keep (as := first) h2 k0, RepVs.keep (as := captured) h3 k0⟩
 | .agg cs, _, _, h, k => by
  simp only [RepV] at h ⊢
  obtain ⟨vs, e, h2⟩ := h
  exact ⟨vs, e, RepVs.keep (as := cs) h2 k⟩
 | .tup cs, _, _, h, k => by
  simp only [RepV] at h ⊢
  obtain ⟨vs, e, h2⟩ := h
  exact ⟨vs, e, RepVs.keep (as := cs) h2 k⟩
 | .undef, _, _, h, _ => by simp only [RepV] at h ⊢; exact h
theorem RepVs.keep : ∀ {as : List AVal} {vs : List Value} {bs : List Nat}, RepVs w R N as vs bs -> Keep w R w' R' bs -> RepVs w' R' N as vs bs
 | [], _, _, h, _ => by simp only [RepVs] at h ⊢; exact h
 | a :: as, _, _, h, k => by
  simp only [RepVs] at h ⊢
  obtain ⟨v, vs', b1, b2, e1, e2, h1, h2⟩ := h
  exact ⟨v, vs', b1, b2, e1, e2, RepV.keep (a := a) h1 (k.sub (by rw [e2]; intro b hb; simp [hb])), RepVs.keep (as := as) h2 (k.sub (by rw [e2]; intro b hb; simp [hb]))⟩
end
theorem RepMap.step (st : Step w R w' R') : ∀ {es : List (Value × Dat)} {ents : List MapEntry}, RepMap w R es ents -> RepMap w' R' es ents
 | [], _, h => h
 |(_, _) :: _, _, ⟨e, es', h1, h2, h3, h4⟩ => ⟨e, es', h1, h2, h3.step st, RepMap.step st h4⟩
theorem RepObj.keep {o : AObj} {b : Nat} {bs : List Nat} (h : RepObj w R N o b bs) (k : Keep w R w' R' (b :: bs)) : RepObj w' R' N o b bs := by
 cases o with
 | cells cs =>
  obtain ⟨vs, elem, sp, hb, hr, hR, hsh⟩ := h
  obtain ⟨e1, e2⟩ := k.same b (by simp) (lt_of_heap hb)
  exact ⟨vs, elem, sp, e1.trans hb, hr.keep (k.sub (by intro x hx; simp [hx])), fun j hj => e2 _ (hR j hj), hsh⟩
 | map es =>
  obtain ⟨hbs, hR, ents, clock, hb, hr, hbo⟩ := h
  obtain ⟨e1, e2⟩ := k.same b (by simp) (lt_of_heap hb)
  exact ⟨hbs, e2 _ hR, ents, clock, e1.trans hb, hr.step k.step, hbo⟩
theorem RepObjs.keep : ∀ {os : List (Name × AObj)} {bs : List Nat}, RepObjs w R N os bs -> Keep w R w' R' bs -> RepObjs w' R' N os bs
 | [], _, h, _ => h
 |(_, _) :: _, _, ⟨b, b1, b2, e, hN, h1, h2⟩, k =>
  ⟨b, b1, b2, e, hN, h1.keep (k.sub (by rw [e]; intro x hx; simp at hx ⊢; rcases hx with h | h <;> simp [h])), RepObjs.keep h2 (k.sub (by rw [e]; intro x hx; simp [hx]))⟩
end
/-! ### A slot of the frame -/
theorem RepVs.length {w : World} {R : Own} {N : Name -> Option Nat} : ∀ {as : List AVal} {vs : List Value} {bs : List Nat}, RepVs w R N as vs bs -> vs.length = as.length
 | [], _, _, h => by simp only [RepVs] at h; simp [h.1]
 | _ :: _, _, _, h => by
  simp only [RepVs] at h
  obtain ⟨v, vs', b1, b2, e1, e2, h1, h2⟩ := h
  simp [e1, h2.length]
theorem RepVs.split {w : World} {R : Own} {N : Name -> Option Nat} : ∀ {as : List AVal} {vs : List Value} {bs : List Nat} {t : Nat} {a : AVal}, RepVs w R N as vs bs -> as[t]? = some a ->
  ∃ pre bt post v, bs = pre ++ bt ++ post /\ vs[t]? = some v /\ RepV w R N a v bt ∧
   ∀ (w' : World) (R' : Own) (a' : AVal) (v' : Value) (b' : List Nat), Keep w R w' R' (pre ++ post) -> RepV w' R' N a' v' b' -> RepVs w' R' N (as.set t a') (vs.set t v') (pre ++ b' ++ post)
 | [], _, _, _, _, _, ht => by simp at ht
 | x :: as, vs, bs, 0, a, h, ht => by
  simp only [RepVs] at h
  obtain ⟨v, vs', b1, b2, e1, e2, h1, h2⟩ := h
  simp at ht
  subst ht
  refine ⟨[], b1, b2, v, by simpa using e2, by simp [e1], h1, fun w' R' a' v' b' k hr => ?_⟩
  subst e1
  simp only [List.set_cons_zero, RepVs]
  exact ⟨v', vs', b', b2, rfl, by simp, hr, h2.keep (k.sub (by simp))⟩
 | x :: as, vs, bs, t + 1, a, h, ht => by
  simp only [RepVs] at h
  obtain ⟨v, vs', b1, b2, e1, e2, h1, h2⟩ := h
  simp at ht
  obtain ⟨pre, bt, post, u, f1, f2, f3, f4⟩ := RepVs.split h2 ht
  refine ⟨b1 ++ pre, bt, post, u, by simp [e2, f1], by simp [e1, f2], f3, fun w' R' a' v' b' k hr => ?_⟩
  subst e1
  simp only [List.set_cons_succ, RepVs]
  exact ⟨v, _, b1, pre ++ b' ++ post, rfl, by simp, h1.keep (k.sub (by intro b hb; simp [hb])), f4 w' R' a' v' b' (k.sub (by intro b hb; simp at hb ⊢; rcases hb with h | h <;> simp [h])) hr⟩
/-! ### The objects -/
def aget (n : Name) : List (Name × AObj) -> Option AObj
 | [] => none
 |(m, o) :: rest => if m = n then some o else aget n rest
def aset (n : Name) (o' : AObj) : List (Name × AObj) -> List (Name × AObj)
 | [] => []
 |(m, o) :: rest => if m = n then (m, o') :: rest else (m, o) :: aset n o' rest
def adel (n : Name) : List (Name × AObj) -> List (Name × AObj)
 | [] => []
 |(m, o) :: r => if m = n then adel n r else (m, o) :: adel n r
theorem RepObjs.split {w : World} {R : Own} {N : Name -> Option Nat} : ∀ {os : List (Name × AObj)} {bs : List Nat} {n : Name} {o : AObj}, RepObjs w R N os bs -> aget n os = some o ->
  ∃ pre b b1 post, bs = pre ++ (b :: b1) ++ post /\ N n = some b /\ RepObj w R N o b b1 ∧
   ∀ (w' : World) (R' : Own) (o' : AObj) (b1' : List Nat), Keep w R w' R' (pre ++ post) -> RepObj w' R' N o' b b1' -> RepObjs w' R' N (aset n o' os) (pre ++ (b :: b1') ++ post)
 | [], _, _, _, _, h => by simp [aget] at h
 |(m, x) :: os, bs, n, o, h, hg => by
  obtain ⟨b, b1, b2, e, hN, h1, h2⟩ := h
  simp only [aget] at hg
  split at hg
  ·rename_i hm
   subst hm
   simp at hg
   subst hg
   refine ⟨[], b, b1, b2, by simp [e], hN, h1, fun w' R' o' b1' k hr => ?_⟩
   simp only [aset, if_true]
   exact ⟨b, b1', b2, by simp, hN, hr, h2.keep (k.sub (by simp))⟩
  rename_i hm
  obtain ⟨pre, c, c1, post, f1, f2, f3, f4⟩ := RepObjs.split h2 hg
  refine ⟨b :: (b1 ++ pre), c, c1, post, by simp [e, f1], f2, f3, fun w' R' o' b1' k hr => ?_⟩
  simp only [aset, if_neg hm]
  exact ⟨b, b1, pre ++ (c :: b1') ++ post, by simp, hN, h1.keep (k.sub (by intro y hy; simp at hy ⊢; rcases hy with h | h <;> simp [h])),
   f4 w' R' o' b1' (k.sub (by intro y hy; simp at hy ⊢; rcases hy with h | h <;> simp [h])) hr⟩
end Go.Tp

namespace Go.Tp
/-! ### Types -/
inductive TD where
 |bool | int (k : IntKind) | string | pointer | slice (elem : TypeId) | map (key elem : TypeId) | func
 |struct (fields : List (Nat × TypeId))
 |array (len : Nat) (elem : TypeId)
 deriving Inhabited
structure TI where
 desc : TD
 size : Nat
 bytes : Nat
 zero : Value
 deriving Inhabited
/-- What is reckoned on data; a variable while code is run. -/
structure Prims where
 wrap : IntKind -> Int -> Int
 add : IntKind -> Int -> Int -> Int
 dif : IntKind -> Int -> Int -> Int
 mul : IntKind -> Int -> Int -> Int
 lt : Int -> Int -> Bool
 eq : Int -> Int -> Bool
 slt : ByteArray -> ByteArray -> Bool
 seq : ByteArray -> ByteArray -> Bool
 cat : ByteArray -> ByteArray -> Option ByteArray
 elt : List Dat -> Int -> Option Dat
 byte : ByteArray -> Int -> Option UInt8
 sub : Nat -> List Dat -> Option Int -> Option Int -> Option (List Dat)
 ssub : ByteArray -> Option Int -> Option Int -> Option ByteArray
 app : Nat -> Nat -> List Dat -> List Dat -> Option (List Dat)
 key : TypeDesc -> Value -> List (Value × Dat) -> Option (Option (Nat × Dat))
 len : List Dat -> Nat
 slen : ByteArray -> Nat
 rem : Int -> Int -> Int
 quo : Int -> Int -> Int
 mx : Int -> Int -> Int
/-- The types, and the functions that have a body. -/
structure TEnv where
 ty : TypeId -> Option TI
 fn : FuncId -> Bool
 pr : Prims
def findKey (td : TypeDesc) (k : Value) : List (Value × Dat) -> Nat -> Option (Option (Nat × Dat))
 | [], _ => some none
 |(x, d) :: es, i =>
  match Instr.sameNow td k x with
  | some true => some (some (i, d))
  | some false => findKey td k es (i + 1)
  | none => none
def natOf (i : Int) : Option Nat := if 0 <= i then some i.toNat else none
def boundOf (v : Option Int) (dflt : Nat) : Option Nat :=
 match v with
 | none => some dflt
 | some i => natOf i
def Prims.std : Prims where
 wrap := IntKind.wrap
 add k a b := k.wrap (a + b)
 dif k a b := k.wrap (a - b)
 mul k a b := k.wrap (a * b)
 lt a b := decide (a < b)
 eq a b := a == b
 slt x y := Op.bytesLess x.toList y.toList
 seq x y := x.toList == y.toList
 cat x y := if ((x.size + y.size : Nat) : Int) > IntKind.i64.max then none else some (x ++ y)
 elt es i := if 0 <= i then es[i.toNat]? else none
 byte s i := if 0 <= i then s[i.toNat]? else none
 sub size es lo hi := if (∀ d ∈ es, d.cells.length = size) /\ 0 < size then
   (match boundOf hi es.length, boundOf lo 0 with
   | some h, some l => if l <= h /\ h <= es.length then some ((es.take h).drop l) else none
   | _, _ => none) else none
 ssub s lo hi := match boundOf hi s.size, boundOf lo 0 with
   | some h, some l => if l <= h /\ h <= s.size then some (s.extract l h) else none
   | _, _ => none
 app size bytes es ds := match size with
   | 0 => none
   | _ => if (∀ d ∈ ds, d.cells.length = size) /\ (∀ d ∈ es, d.cells.length = size) /\ 0 < bytes /\ (es.length + ds.length) * bytes <= 140737488355328 /\ es.length + ds.length <= lim then some (es ++ ds) else none
 key td k es := findKey td k es 0
 len := List.length
 slen := ByteArray.size
 rem := Int.tmod
 quo := Int.tdiv
 mx x y := if x < y then y else x
def TI.ok (P : Program) (t : TypeId) (i : TI) : Prop :=
 (∃ j, P.info? t = some j /\ j.size = i.size /\ j.bytes = i.bytes /\ j.zero = some i.zero /\ i.zero.cells.size = i.size) ∧
 match i.desc with
 | .bool => P.underlying t = some .bool
 | .int k => P.underlying t = some (.int k)
 | .string => P.underlying t = some .string
 | .pointer => ∃ e, P.underlying t = some (.pointer e)
 | .slice e => P.underlying t = some (.slice e)
 | .map k e => P.underlying t = some (.map k e)
 | .func => ∃ a b c, P.underlying t = some (.func a b c)
 | .array n e => P.underlying t = some (.array n e)
 | .struct fs => ∃ fields : Array Field, P.underlying t = some (.struct fields) /\ fields.toList.map (fun f => (f.offset, f.type)) = fs ∧
   ∃ places, fields.toList.mapM (fun f => (P.info? f.type).map fun i => (f.offset, i.size)) = some places
structure TEnv.Ok (E : TEnv) (P : Program) : Prop where
 ty : ∀ t i, E.ty t = some i -> i.ok P t
 fn : ∀ f, E.fn f = true -> ∃ g, P.funcs[f]? = some g /\ g.body.isSome = true /\ (g.name == "runtime.NumGoroutine") = false
 mixed : P.follows .mixedOrders = true
 std : E.pr = Prims.std
/-! ### Values -/
/-- A copy: ownership stays where it is. -/
def unOwnL : List AVal -> List AVal
 | [] => []
 | .own es :: r => .dat (.slice es) :: unOwnL r
 | .agg _ :: r => .undef :: unOwnL r
 | .tup _ :: r => .undef :: unOwnL r
 | a :: r => a :: unOwnL r
/-- The cells of data, if all are data of one cell. -/
def datCells : List AVal -> Option (List Dat)
 | [] => some []
 | .dat (.flat v) :: r => match datCells r with | some ds => some (.flat v :: ds) | none => none
 | .dat (.slice es) :: r => match datCells r with | some ds => some (.slice es :: ds) | none => none
 | _ :: _ => none
def mkAgg (cs : List AVal) : AVal :=
 match datCells cs with
 | some ds => .dat (.agg ds)
 | none => .agg cs
def unOwnT : List AVal -> List AVal
 | [] => []
 | .own es :: r => .dat (.slice es) :: unOwnT r
 | .agg cs :: r => mkAgg (unOwnL cs) :: unOwnT r
 | .tup _ :: r => .undef :: unOwnT r
 | a :: r => a :: unOwnT r
def unOwn : AVal -> AVal
 | .own es => .dat (.slice es)
 | .agg cs => mkAgg (unOwnL cs)
 | .tup vs => .tup (unOwnT vs)
 | a => a
/-- As data, ownership given up. -/
def asDat : AVal -> Option Dat
 | .dat d => some d
 | .own es => some (.slice es)
 | .agg cs => match datCells (unOwnL cs) with | some ds => some (.agg ds) | none => none
 | _ => none
def acells : AVal -> List AVal
 | .agg cs => cs
 | .dat (.agg ds) => ds.map .dat
 | a => [a]
def constL : List Value -> List AVal
 | [] => []
 | v :: r => (if isFlat v then .dat (.flat v) else .undef) :: constL r
def ofConst : Value -> AVal
 | .agg cs => mkAgg (constL cs.toList)
 | .tuple _ => .undef
 | v => if isFlat v then .dat (.flat v) else .undef
/-- A nil slice is read as an empty one. -/
def nz : AVal -> AVal
 | .dat (.flat (.slice none 0 0)) => .dat (.slice [])
 | a => a
def nzL : List AVal -> List AVal
 | [] => []
 | a :: r => nz a :: nzL r
/-- .. and appended to as a row of nobody's. -/
def ownz : AVal -> AVal
 | .dat (.flat (.slice none 0 0)) => .own []
 | a => a
def apz : List AVal -> List AVal
 | [a, x] => [ownz a, nz x]
 | l => l
def isNilV : AVal -> Bool
 | .dat (.flat (.slice none 0 0)) => true
 | _ => false
/-! ### Scalars -/
def intBin (pr : Prims) (op : BinOp) (k : IntKind) (a b : Int) : Option Value :=
 match op with
 | .add => some (.int k (pr.add k a b))
 | .sub => some (.int k (pr.dif k a b))
 | .mul => some (.int k (pr.mul k a b))
 | .quo => if pr.eq b 0 = true then none else some (.int k (pr.wrap k (pr.quo a b)))
 | .rem => if pr.eq b 0 = true then none else some (.int k (pr.rem a b))
 | .eql => some (.bool (pr.eq a b))
 | .neq => some (.bool !(pr.eq a b))
 | .lss => some (.bool (pr.lt a b))
 | .leq => some (.bool !(pr.lt b a))
 | .gtr => some (.bool (pr.lt b a))
 | .geq => some (.bool !(pr.lt a b))
 | _ => none
def strBin (pr : Prims) (op : BinOp) (x y : ByteArray) : Option Value :=
 match op with
 | .add => (match pr.cat x y with | some z => some (.string z) | none => none)
 | .eql => some (.bool (pr.seq x y))
 | .neq => some (.bool !(pr.seq x y))
 | .lss => some (.bool (pr.slt x y))
 | .leq => some (.bool (pr.slt x y || pr.seq x y))
 | .gtr => some (.bool !(pr.slt x y || pr.seq x y))
 | .geq => some (.bool !(pr.slt x y))
 | _ => none
def flatBin (pr : Prims) (op : BinOp) (td : Option TD) (x y : Value) : Option Value :=
 match op, x, y with
 | .shl, .int k a, .int _ b => if pr.lt b 0 = true then none else some (.int k (pr.wrap k (a * 2 ^ (min b.toNat k.bits))))
 | .shr, .int k a, .int _ b => if pr.lt b 0 = true then none else some (.int k (a.fdiv (2 ^ (min b.toNat k.bits))))
 | op, .int k a, .int k' b => if k = k' then intBin pr op k a b else none
 | op, .string a, .string b => strBin pr op a b
 | .eql, .bool a, .bool b => match td with | some .bool => some (.bool (a == b)) | _ => none
 | .neq, .bool a, .bool b => match td with | some .bool => some (.bool !(a == b)) | _ => none
 | .eql, .pointer none, .pointer none => match td with | some .pointer => some (.bool true) | _ => none
 | .neq, .pointer none, .pointer none => match td with | some .pointer => some (.bool false) | _ => none
 | _, _, _ => none
def aval (v : Value) : AVal := .dat (.flat v)
def TI.isAgg (i : TI) : Bool := match i.desc with | .struct _ => true | .array _ _ => true | _ => false
/-! ### Operations -/
/-- Which operand's ownership moves. -/
def movedOp : Op -> Option Nat
 | .move _ | .assign _ | .box _ _ | .extract _ _ => some 0
 | .store _ _ _ => some 1
 | .call { callee := .builtin .append, .. } => some 0
 | _ => none
/-- What an operation does to the one object that it looks at. -/
inductive Eff where
 |keep
 |set (o : AObj)
 |new (o : AObj)
 /-- a new row in the place of the one that is looked at, and a slice of its first elements -/
 |grow (o : AObj) (s len : Nat)
 /-- a new row of the frame's own, and a slice of its first elements -/
 |row (o : AObj) (s len : Nat)
 /-- a new object that is known by a lasting name -/
 |fresh (o : AObj)
def dropL : Nat -> List AVal -> List AVal
 | 0, l => l
 | _ + 1, [] => []
 | n + 1, _ :: l => dropL n l
def takeL : Nat -> List AVal -> List AVal
 | 0, _ => []
 | _ + 1, [] => []
 | n + 1, a :: l => a :: takeL n l
/-- 'new' in the place of the cells from off on. -/
def putL {α : Type} : Nat -> List α -> List α -> List α
 | _, [], l => l
 | _, _ :: _, [] => []
 | 0, n :: ns, _ :: l => n :: putL 0 ns l
 | off + 1, n :: ns, a :: l => a :: putL off (n :: ns) l
/-- The object that an operation looks at. -/
def looks : Op -> List AVal -> Option Name
 | .load _ _, [.ptr n _] => some n
 | .store _ _ _, [.ptr n _, _] => some n
 | .lookup _ _ _ _, [.map n, _] => some n
 | .mapUpdate _ _ _ _, [.map n, _, _] => some n
 | .insert _ _ _ _, [.map n, _, _] => some n
 | .call { callee := .builtin .len, .. }, [.map n] => some n
 | .call { callee := .builtin .append, .. }, [.win n _ _ _, _] => some n
 | .call { callee := .builtin .delete, .. }, [.map n, _] => some n
 | _, _ => none
def loadCells (i : TI) (off : Nat) (cs : List AVal) : Option AVal :=
 if i.isAgg then
  let part := takeL i.size (dropL off cs)
  if part.length = i.size then some (mkAgg (unOwnL part)) else none
 else match cs[off]? with
  | some (.own es) => some (.dat (.slice es))
  | some .undef => none
  | some (.agg _) => none
  | some (.tup _) => none
  | some a => some a
  | none => none
def loadDats (i : TI) (cs : List Dat) : Option AVal :=
 if i.isAgg then
  let part := cs.take i.size
  if part.length = i.size then some (.dat (.agg part)) else none
 else match cs with
  | .flat v :: _ => some (.dat (.flat v))
  | .slice es :: _ => some (.dat (.slice es))
  | _ => none
/-- Cells that a store takes. -/
def okCell : AVal -> Bool
 | .dat (.flat _) | .dat (.slice _) | .own _ | .ref _ | .ptr _ _ | .map _ | .win _ _ _ _ | .fn _ _ _ => true
 | _ => false
def okCells : List AVal -> Bool
 | [] => true
 | a :: r => okCell a && okCells r
/-- The parts laid into the zero value's cells. -/
def fillL (place : Nat -> Option (Nat × Nat)) : List (Nat × AVal) -> List AVal -> Option (List AVal)
 | [], cells => some cells
 |(i, v) :: rest, cells =>
  match place i with
  | none => none
  | some (off, size) =>
   let cs := acells (unOwn v)
   if cs.length = size /\ off + size <= cells.length /\ okCells cs = true then fillL place rest (putL off cs cells) else none
/-- All parts of a slice literal, in order, as data. -/
def sliceParts (size : Nat) : Nat -> List (Nat × AVal) -> Option (List Dat)
 | _, [] => some []
 | k, (i, v) :: rest =>
  if i = k then
   match asDat v with
   | some d => if d.cells.length = size then match sliceParts size (k + 1) rest with | some ds => some (d :: ds) | none => none else none
   | none => none
  else none
def keyDesc : TD -> Option TypeDesc
 | .string => some .string
 | .int k => some (.int k)
 | .bool => some .bool
 | _ => none
def TEnv.desc (E : TEnv) (t : TypeId) : Option TD := match E.ty t with | some i => some i.desc | none => none
def TEnv.key (E : TEnv) (t : TypeId) : Option TypeDesc := match E.ty t with | some i => keyDesc i.desc | none => none
structure Out where
 val : AVal
 eff : Eff
def ofV (v : Option Value) : Option Out := match v with | some v => some ⟨aval v, .keep⟩ | none => none
def ofA (v : Option AVal) : Option Out := match v with | some v => some ⟨v, .keep⟩ | none => none
def appendTo (pr : Prims) (i : TI) (es : List Dat) (x : AVal) : Option (List Dat) :=
 match x with
 | .dat (.slice ds) => pr.app i.size i.bytes es ds
 | _ => none
def bound1 (v : Option AVal) (dflt : Nat) : Option Nat :=
 match v with
 | none => some dflt
 | some (.dat (.flat (.int _ i))) => if 0 <= i then some i.toNat else none
 | some _ => none
/-- Bounds of a slice expression. -/
def intArg (v : Option AVal) : Option (Option Int) :=
 match v with
 | none => some none
 | some (.dat (.flat (.int _ i))) => some (some i)
 | some _ => none
def sliceOf (pr : Prims) (size : Nat) (lo hi : Option AVal) (x : AVal) : Option AVal :=
 match intArg lo, intArg hi with
 | some l, some h => (match x with
  | .dat (.flat (.string s)) => (match pr.ssub s l h with | some r => some (aval (.string r)) | none => none)
  | .dat (.slice es) => (match pr.sub size es l h with | some r => some (.dat (.slice r)) | none => none)
  | _ => none)
 | _, _ => none
def optArgs (lo hi : Option Operand) (vals : List AVal) : Option AVal × Option AVal :=
 match lo, hi, vals with
 | some _, some _, [l, h] => (some l, some h)
 | some _, none, [l] => (some l, none)
 | none, some _, [h] => (none, some h)
 | _, _, _ => (none, none)
def nilBin (op : BinOp) (td : Option TD) (x y : AVal) : Option Value :=
 match td, x, y with
 | some .pointer, .ptr _ _, .dat (.flat (.pointer none)) | some .pointer, .ref _, .dat (.flat (.pointer none)) =>
  (match op with | .eql => some (.bool false) | .neq => some (.bool true) | _ => none)
 | some (.map _ _), .map _, .dat (.flat (.map none)) => (match op with | .eql => some (.bool false) | .neq => some (.bool true) | _ => none)
 | _, _, _ => none
def isNilSlice : Operand -> Bool
 | .const (.slice none 0 0) => true
 | _ => false
def notNil : BinOp -> Option Out
 | .eql => some ⟨aval (.bool false), .keep⟩
 | .neq => some ⟨aval (.bool true), .keep⟩
 | _ => none
def yesNil : BinOp -> Option Out
 | .eql => some ⟨aval (.bool true), .keep⟩
 | .neq => some ⟨aval (.bool false), .keep⟩
 | _ => none
/-- A slice against nil. -/
def aNilSlice (E : TEnv) (op : BinOp) (t : TypeId) : List AVal -> Option Out
 | [x, _] => (match E.desc t with
  | some (.slice _) => (match x with
   | .win _ _ _ _ | .dat (.slice (_ :: _)) => notNil op
   | .dat (.flat (.slice none 0 0)) => yesNil op
   | _ => none)
  | _ => none)
 | _ => none
def parts (ps : List (Nat × Operand)) (vals : List AVal) : List (Nat × AVal) := (ps.map (·.1)).zip vals
def setAt (k : Nat) (d : Dat) : List (Value × Dat) -> List (Value × Dat)
 | [] => []
 |(x, y) :: r => match k with | 0 => (x, d) :: r | k + 1 => (x, y) :: setAt k d r
def delAt (k : Nat) : List (Value × Dat) -> List (Value × Dat)
 | [] => []
 | e :: r => match k with | 0 => r | k + 1 => e :: delAt k r
/-! #### Each kind of operation -/
def aMove : List AVal -> Option Out
 | [v] => some ⟨v, .keep⟩
 | _ => none
def aPick : List AVal -> Option Out
 | [.dat (.flat (.bool c)), a, b] => some ⟨if c then a else b, .keep⟩
 | _ => none
def aBin (E : TEnv) (op : BinOp) (t : TypeId) : List AVal -> Option Out
 | [.dat (.flat x), .dat (.flat y)] => ofV (flatBin E.pr op (E.desc t) x y)
 | [x, y] => ofV (nilBin op (E.desc t) x y)
 | _ => none
def aUn (E : TEnv) (op : UnOp) : List AVal -> Option Out
 | [.dat (.flat (.bool b))] => (match op with | .not => some ⟨aval (.bool !b), .keep⟩ | _ => none)
 | [.dat (.flat (.int k n))] => (match op with | .neg => some ⟨aval (.int k (E.pr.dif k 0 n)), .keep⟩ | _ => none)
 | _ => none
/-- Bytes, as numbers. -/
def byteInts : List Dat -> Option (List Int)
 | [] => some []
 | .flat (.int .u8 n) :: r => (match byteInts r with | some ns => some (n :: ns) | none => none)
 | _ => none
def pushInts (ns : List Int) : ByteArray := ns.foldl (fun r n => r.push (UInt8.ofNat n.toNat)) ByteArray.empty
def aConvert (E : TEnv) (src d : TypeId) : List AVal -> Option Out
 | [.dat (.flat (.int _ n))] => (match E.desc src, E.desc d with | some (.int _), some (.int k) => some ⟨aval (.int k (E.pr.wrap k n)), .keep⟩ | _, _ => none)
 | [.dat (.flat (.string x))] => (match E.desc src, E.desc d with | some .string, some .string => some ⟨aval (.string x), .keep⟩ | _, _ => none)
 | [.dat (.slice es)] => (match E.desc src, E.desc d with
  | some (.slice e), some .string => (match E.desc e, byteInts es with | some (.int .u8), some ns => some ⟨aval (.string (pushInts ns)), .keep⟩ | _, _ => none)
  | _, _ => none)
 | _ => none
def aNil : List AVal -> Option Out
 | [.ptr n off] => some ⟨.ptr n off, .keep⟩
 | [.ref cs] => some ⟨.ref cs, .keep⟩
 | _ => none
def fieldOf (E : TEnv) (st : TypeId) (f : Nat) : Option (Nat × TI) :=
 match E.desc st with
 | some (.struct fs) => (match fs[f]? with
  | some (off, ft) => (match E.ty ft with
   | some i => some (off, i)
   | none => none)
  | none => none)
 | _ => none
def aFieldAddr (E : TEnv) (st : TypeId) (f : Nat) : List AVal -> Option Out
 | [.ref cs] => (match fieldOf E st f with | some (off, i) => if i.size = 0 then none else some ⟨.ref (cs.drop off), .keep⟩ | none => none)
 | [.ptr n o] => (match fieldOf E st f with | some (off, i) => if i.size = 0 then none else some ⟨.ptr n (o + off), .keep⟩ | none => none)
 | _ => none
def aField (E : TEnv) (st : TypeId) (f : Nat) : List AVal -> Option Out
 | [.dat (.agg cs)] => (match fieldOf E st f with | some (off, i) => ofA (loadDats i (cs.drop off)) | none => none)
 | [.agg cs] => (match fieldOf E st f with | some (off, i) => ofA (loadCells i off cs) | none => none)
 | _ => none
def elemOf (E : TEnv) (t : TypeId) : Option TI :=
 match E.desc t with
 | some (.slice e) => E.ty e
 | _ => none
def aIndexAddr (E : TEnv) (t : TypeId) : List AVal -> Option Out
 | [.dat (.slice es), .dat (.flat (.int _ i))] =>
  (match elemOf E t with
   | some ti => (match E.pr.elt es i with
     | some d => if d.cells.length = ti.size /\ 0 < ti.size then some ⟨.ref d.cells, .keep⟩ else none
     | none => none)
   | none => none)
 | [.win n s off len, .dat (.flat (.int _ i))] =>
  (match elemOf E t with
   | some ti => (match i with
    | .ofNat k => if (Nat.blt k len && Nat.beq s ti.size) = true then some ⟨.ptr n (off + k * s), .keep⟩ else none
    | .negSucc _ => none)
   | none => none)
 | [.ptr n off, .dat (.flat (.int _ i))] =>
  (match E.desc t with
   | some (.array len e) => (match E.ty e, i with
    | some ti, .ofNat k => if Nat.blt k len = true then some ⟨.ptr n (off + k * ti.size), .keep⟩ else none
    | _, _ => none)
   | _ => none)
 | _ => none
/-- An element of an array that is a value. -/
def aIndexArr (E : TEnv) (t : TypeId) (cs : List Dat) : Int -> Option Out
 | .ofNat j => (match E.desc t with
   | some (.array len e) => (match E.ty e with
    | some ti => if Nat.blt j len = true then ofA (loadDats ti (cs.drop (j * ti.size))) else none
    | none => none)
   | _ => none)
 | _ => none
def aIndex (E : TEnv) (t : TypeId) : List AVal -> Option Out
 | [.dat (.flat (.string s)), .dat (.flat (.int _ i))] =>
  (match E.desc t with
   | some .string => (match E.pr.byte s i with | some b => some ⟨aval (.int .u8 b.toNat), .keep⟩ | none => none)
   | _ => none)
 | [.dat (.agg cs), .dat (.flat (.int _ i))] => aIndexArr E t cs i
 | _ => none
def aSlice (E : TEnv) (t : TypeId) (lo hi mx : Option Operand) : List AVal -> Option Out
 | .dat (.flat (.string x)) :: rest =>
  (match mx, E.desc t with
   | none, some .string => ofA (sliceOf E.pr 0 (optArgs lo hi rest).1 (optArgs lo hi rest).2 (.dat (.flat (.string x))))
   | _, _ => none)
 | .dat (.slice es) :: rest =>
  (match mx, elemOf E t with
   | none, some i => ofA (sliceOf E.pr i.size (optArgs lo hi rest).1 (optArgs lo hi rest).2 (.dat (.slice es)))
   | _, _ => none)
 | .win n s off len :: rest =>
  (match mx, elemOf E t with
   | none, some i => (match intArg (optArgs lo hi rest).1, intArg (optArgs lo hi rest).2 with
    | some l, some h => (match boundOf h len, boundOf l 0 with
     | some h, some l => if (Nat.ble l h && Nat.ble h len && Nat.beq s i.size) = true then
       (match l with
       | 0 => some ⟨.win n s off h, .keep⟩
       | l + 1 => if Nat.blt (l + 1) h = true then some ⟨.win n s (off + (l + 1) * s) (h - (l + 1)), .keep⟩ else some ⟨.dat (.slice []), .keep⟩)
      else none
     | _, _ => none)
    | _, _ => none)
   | _, _ => none)
 | _ => none
def placeOf (E : TEnv) (st : TypeId) (k : Nat) : Option (Nat × Nat) := match fieldOf E st k with | some (off, i) => some (off, i.size) | none => none
def aBuild (E : TEnv) (t : TypeId) (ps : List (Nat × Operand)) (vals : List AVal) : Option Out :=
 match E.ty t with
 | some i => (match i.desc with
  | .struct _ => if okCells (acells (ofConst i.zero)) = true /\ vals.length = ps.length then (match fillL (placeOf E t) (parts ps vals) (acells (ofConst i.zero)) with
   | some cs => some ⟨mkAgg cs, .keep⟩
   | none => none) else none
  | .array _ e => (match E.ty e with
   | some ie => if okCells (acells (ofConst i.zero)) = true /\ vals.length = ps.length then (match fillL (fun k => some (k * ie.size, ie.size)) (parts ps vals) (acells (ofConst i.zero)) with
    | some cs => some ⟨mkAgg cs, .keep⟩
    | none => none) else none
   | none => none)
  | _ => none)
 | none => none
/-- A slice literal as a row. -/
def aBuildRow (E : TEnv) (t : TypeId) (len : Nat) (ps : List (Nat × Operand)) (vals : List AVal) : Option Out :=
 match elemOf E t with
 | some i => if 0 < i.size /\ 0 < len /\ len * i.size <= 16777216 /\ vals.length = ps.length then (match sliceParts i.size 0 (parts ps vals) with
   | some ds => if ds.length = len /\ bldSh ((ds.flatMap Dat.cells).map .dat) = false then some ⟨.undef, match Nat.beq len 1 with | true => .row (.cells ((ds.flatMap Dat.cells).map .dat)) i.size len | false => .grow (.cells ((ds.flatMap Dat.cells).map .dat)) i.size len⟩ else none
   | none => none) else none
 | none => none
/-- Rows of bytes are of type uint8. -/
def byteOk (E : TEnv) (t : TypeId) (es : List Dat) : Bool :=
 match isBytes es with
 | true => (match E.desc t with | some (.slice e) => Nat.beq e byteId | _ => false)
 | false => true
def aBuildSlice (E : TEnv) (t : TypeId) (len : Nat) (ps : List (Nat × Operand)) (vals : List AVal) : Option Out :=
 match elemOf E t with
 | some i => if 0 < i.size /\ len * i.size <= 16777216 /\ vals.length = ps.length then (match sliceParts i.size 0 (parts ps vals) with
   | some ds => if ds.length = len /\ byteOk E t ds = true then some ⟨.own ds, .keep⟩ else none
   | none => none) else none
 | none => none
def aMakeFunc (f : Fn) (k : Nat) (vals : List AVal) : Option Out := some ⟨.fn f (takeL k vals) (dropL k vals), .keep⟩
def aExtract (i : Nat) : List AVal -> Option Out
 | [.tup vs] => (match vs[i]? with | some v => some ⟨v, .keep⟩ | none => none)
 | _ => none
def aLoad (E : TEnv) (take : Bool) (t : TypeId) (vals : List AVal) (ob : Option AObj) : Option Out :=
 match vals with
 | [.ref cs] => (match E.ty t with | some i => ofA (loadDats i cs) | none => none)
 | [.ptr _ off] =>
  (match E.ty t, ob with
   | some i, some (.cells cs) =>
    if take && !i.isAgg then (match cs[off]? with
     | some (.own es) => some ⟨.own es, .set (.cells (putL off [.dat (.slice es)] cs))⟩
     | _ => ofA (loadCells i off cs))
    else ofA (loadCells i off cs)
   | _, _ => none)
 | _ => none
def aStore (E : TEnv) (t : TypeId) (vals : List AVal) (ob : Option AObj) : Option Out :=
 match vals with
 | [.ptr _ off, v] =>
  (match E.ty t, ob with
   | some i, some (.cells cs) =>
    if (acells v).length = i.size /\ off + i.size <= cs.length /\ okCells (acells v) = true /\ 0 < i.size /\ (!bldSh (putL off (acells v) cs) || bldSh cs) = true then some ⟨.undef, .set (.cells (putL off (acells v) cs))⟩ else none
   | _, _ => none)
 | _ => none
def aAlloc (E : TEnv) (t : TypeId) : List AVal -> Option Out
 | [] => (match E.ty t with | some i => if okCells (acells (ofConst i.zero)) = true /\ (!bldSh (acells (ofConst i.zero)) || Nat.beq t bldId) = true then some ⟨.undef, .new (.cells (acells (ofConst i.zero)))⟩ else none | none => none)
 | _ => none
def replL (zs : List AVal) : Nat -> List AVal
 | 0 => []
 | c + 1 => zs ++ replL zs c
def aMakeSlice (E : TEnv) (t : TypeId) : List AVal -> Option Out
 | [.dat (.flat (.int _ l)), .dat (.flat (.int _ c))] =>
  (match elemOf E t, l, c with
   | some i, .ofNat l, .ofNat c =>
    if (Nat.ble l c && Nat.ble (i.bytes * c) 140737488355328 && Nat.ble c lim && Nat.blt 0 i.size && okCells (acells (ofConst i.zero)) && !bldSh (replL (acells (ofConst i.zero)) c)) = true
    then some ⟨.undef, .grow (.cells (replL (acells (ofConst i.zero)) c)) i.size l⟩ else none
   | _, _, _ => none)
 | _ => none
def aBox : List AVal -> Option Out
 | [v] => if okCells (acells v) = true /\ bldSh (acells v) = false then some ⟨.undef, .new (.cells (acells v))⟩ else none
 | _ => none
def aMakeMap (r : Option Operand) : List AVal -> Option Out
 | [] => (match r with | none => some ⟨.undef, .new (.map [])⟩ | some _ => none)
 | _ => none
def aFreshMap (r : Option Operand) : List AVal -> Option Out
 | [] => (match r with | none => some ⟨.undef, .fresh (.map [])⟩ | some _ => none)
 | _ => none
def mapEntries (m : AVal) (ob : Option AObj) : Option (List (Value × Dat)) :=
 match m with
 | .dat (.flat (.map none)) => some []
 | .map _ => (match ob with | some (.map es) => some es | _ => none)
 | _ => none
def found (ok : Bool) (d : Dat) (b : Bool) : Out := ⟨if ok then .tup [.dat d, aval (.bool b)] else .dat d, .keep⟩
def aLookup (E : TEnv) (t : TypeId) (ok : Bool) (vals : List AVal) (ob : Option AObj) : Option Out :=
 match vals with
 | [m, .dat (.flat k)] =>
  (match E.desc t with
   | some (.map kt et) => (match E.key kt, E.ty et, mapEntries m ob with
    | some td, some ei, some es => (match E.pr.key td k es with
      | some (some (_, d)) => some (found ok d true)
      | some none => (match asDat (ofConst ei.zero) with
       | some z => some (found ok z false)
       | none => none)
      | none => none)
    | _, _, _ => none)
   | _ => none)
 | _ => none
def aMapUpdate (E : TEnv) (t : TypeId) (vals : List AVal) (ob : Option AObj) : Option Out :=
 match vals with
 | [.map _, .dat (.flat k), v] =>
  (match E.desc t, ob with
   | some (.map kt _), some (.map es) => (match E.key kt, asDat v with
    | some td, some d => (match E.pr.key td k es with
     | some (some (i, _)) => some ⟨.undef, .set (.map (setAt i d es))⟩
     | some none => some ⟨.undef, .set (.map (es ++ [(k, d)]))⟩
     | none => none)
    | _, _ => none)
   | _, _ => none)
 | _ => none
def aLen (E : TEnv) (t : TypeId) (vals : List AVal) (ob : Option AObj) : Option Out :=
 match vals with
 | [.dat (.slice es)] => (match E.desc t with | some (.slice _) => some ⟨aval (.int .i64 (E.pr.len es)), .keep⟩ | _ => none)
 | [.dat (.flat (.string s))] => (match E.desc t with | some .string => some ⟨aval (.int .i64 (E.pr.slen s)), .keep⟩ | _ => none)
 | [.win _ _ _ len] => (match E.desc t with | some (.slice _) => if Nat.ble len lim = true then some ⟨aval (.int .i64 (Int.ofNat len)), .keep⟩ else none | _ => none)
 | [.dat (.flat (.map none))] => (match E.desc t with | some (.map _ _) => some ⟨aval (.int .i64 0), .keep⟩ | _ => none)
 | [.map _] => (match E.desc t, ob with | some (.map _ _), some (.map es) => if es.length <= lim then some ⟨aval (.int .i64 es.length), .keep⟩ else none | _, _ => none)
 | _ => none
/-- A row of len elements with more behind them. -/
def growRow (E : TEnv) (i : TI) (len : Nat) (cs : List AVal) (x : AVal) : Option Out :=
 match appendTo E.pr i [] x with
 | some ds => if (Nat.ble ((len + ds.length) * i.bytes) 140737488355328 && Nat.ble (len + ds.length) lim && Nat.ble (len * i.size) cs.length && !bldSh (takeL (len * i.size) cs ++ (ds.flatMap Dat.cells).map .dat)) = true
   then some ⟨.undef, .grow (.cells (takeL (len * i.size) cs ++ (ds.flatMap Dat.cells).map .dat)) i.size (len + ds.length)⟩ else none
 | none => none
def isMore : AVal -> Bool
 | .dat (.slice (_ :: _)) => true
 | _ => false
def aAppend (E : TEnv) (take : Bool) (t : TypeId) (vals : List AVal) (ob : Option AObj) : Option Out :=
 match vals with
 | [.own es, x] => (match elemOf E t with
  | some i => if (take && es.isEmpty && isMore x) = true then growRow E i 0 [] x
   else (match appendTo E.pr i es x with | some r => if byteOk E t r = true then some ⟨.own r, .keep⟩ else none | none => none)
  | none => none)
 | [.win _ s off len, x] => (match elemOf E t, ob with
  | some i, some (.cells cs) => if (take && Nat.beq s i.size && Nat.beq off 0) = true then growRow E i len cs x else none
  | _, _ => none)
 | _ => none
def byteDs : List UInt8 -> List Dat
 | [] => []
 | b :: r => .flat (.int .u8 (Int.ofNat b.toNat)) :: byteDs r
/-- A string's bytes behind a row of bytes. -/
def aAppendStr (E : TEnv) (t t2 : TypeId) (vals : List AVal) : Option Out :=
 match vals with
 | [.own es, .dat (.flat (.string s))] => (match E.desc t2, elemOf E t with
  | some .string, some i => if Nat.beq i.size 1 = true then
    (match appendTo E.pr i es (.dat (.slice (byteDs s.data.toList))) with | some r => if byteOk E t r = true then some ⟨.own r, .keep⟩ else none | none => none) else none
  | _, _ => none)
 | _ => none
def aMax (E : TEnv) : List AVal -> Option Out
 | [.dat (.flat (.int k x)), .dat (.flat (.int k' y))] => if k' = k then some ⟨aval (.int k (E.pr.mx x y)), .keep⟩ else none
 | _ => none
def aMin (E : TEnv) : List AVal -> Option Out
 | [.dat (.flat (.int k x)), .dat (.flat (.int k' y))] => if k' = k then some ⟨aval (.int k (if E.pr.lt y x = true then y else x)), .keep⟩ else none
 | _ => none
def aDelete (E : TEnv) (t : TypeId) (vals : List AVal) (ob : Option AObj) : Option Out :=
 match vals with
 | [.map _, .dat (.flat k)] =>
  (match E.desc t, ob with
   | some (.map kt _), some (.map es) => (match E.key kt with
    | some td => (match E.pr.key td k es with
     | some (some (i, _)) => some ⟨.tup [], .set (.map (delAt i es))⟩
     | some none => some ⟨.tup [], .set (.map es)⟩
     | none => none)
    | none => none)
   | _, _ => none)
 | _ => none
def aBuiltin (E : TEnv) (take : Bool) (b : Builtin) (argTypes : List TypeId) (vals : List AVal) (ob : Option AObj) : Option Out :=
 match argTypes with
 | [] => none
 | t :: _ => match b with
  | .len => aLen E t (nzL vals) ob
  | .append => (match argTypes with | [_, t2] => if t2 = t then aAppend E take t (apz vals) ob else aAppendStr E t t2 (apz vals) | _ => none)
  | .max => aMax E vals
  | .min => aMin E vals
  | .delete => aDelete E t vals ob
  | _ => none
def aop (E : TEnv) (take : Bool) (o : Op) (vals : List AVal) (ob : Option AObj) : Option Out :=
 match o with
 | .move _ => aMove vals
 | .assign _ => aMove vals
 | .pick _ _ _ => aPick vals
 | .binOp op t _ y _ => if isNilSlice y = true then aNilSlice E op t vals else aBin E op t vals
 | .unOp op _ _ => aUn E op vals
 | .convert s d _ => aConvert E s d (nzL vals)
 | .nilCheck _ => aNil vals
 | .fieldAddr st _ f => aFieldAddr E st f vals
 | .field st _ f => aField E st f vals
 | .indexAddr t _ _ => aIndexAddr E t (nzL vals)
 | .index t _ _ => aIndex E t vals
 | .slice t _ lo hi mx => aSlice E t lo hi mx (nzL vals)
 | .build t ps => aBuild E t ps.toList vals
 | .buildSlice t len ps => if (take && Nat.blt 0 len) = true then aBuildRow E t len ps.toList vals else aBuildSlice E t len ps.toList vals
 | .makeFunc f first _ => aMakeFunc f first.size vals
 | .extract _ i => aExtract i vals
 | .load t _ => aLoad E take t vals ob
 | .store t _ _ => aStore E t vals ob
 | .alloc t => aAlloc E t vals
 | .box _ _ => aBox vals
 | .makeMap _ r => if take = true then aFreshMap r vals else aMakeMap r vals
 | .makeSlice t _ _ => aMakeSlice E t vals
 | .lookup t _ _ ok => aLookup E t ok vals ob
 | .mapUpdate t _ _ _ => aMapUpdate E t vals ob
 | .insert t _ _ _ => aMapUpdate E t vals ob
 | .call c => (match c.callee with | .builtin b => aBuiltin E take b c.argTypes.toList vals ob | _ => none)
 | _ => none
end Go.Tp

namespace Go.Tp
section
variable {w : World} {R : Own} {N : Name -> Option Nat}
theorem RepOwn.rep {v : Value} {es : List Dat} {bs : List Nat} (h : RepOwn w R v es bs) : RepC w R v (.slice es) := by
 cases h with
 | nil => exact .nil _ _
 | row => assumption
theorem repVs_cons {a : AVal} {as : List AVal} {v : Value} {vs : List Value} {b1 b2 : List Nat} (h : RepV w R N a v b1) (k : RepVs w R N as vs b2) :
  RepVs w R N (a :: as) (v :: vs) (b1 ++ b2) := by
 simp only [RepVs]; exact ⟨v, vs, b1, b2, rfl, rfl, h, k⟩
theorem repVs_nil : RepVs w R N [] [] [] := by simp [RepVs]
theorem repVs_cons_inv {a : AVal} {as : List AVal} {vs : List Value} {bs : List Nat} (h : RepVs w R N (a :: as) vs bs) :
  ∃ v vs' b1 b2, vs = v :: vs' /\ bs = b1 ++ b2 /\ RepV w R N a v b1 /\ RepVs w R N as vs' b2 := by
 simpa only [RepVs] using h
theorem repVs_nil_inv {vs : List Value} {bs : List Nat} (h : RepVs w R N [] vs bs) : vs = [] /\ bs = [] := by simpa only [RepVs] using h
theorem repVs_append {as : List AVal} : ∀ {cs : List AVal} {vs us : List Value} {b1 b2 : List Nat}, RepVs w R N as vs b1 -> RepVs w R N cs us b2 ->
  RepVs w R N (as ++ cs) (vs ++ us) (b1 ++ b2) := by
 induction as with
 | nil => intro cs vs us b1 b2 h k; obtain ⟨rfl, rfl⟩ := repVs_nil_inv h; simpa using k
 | cons a as ih =>
  intro cs vs us b1 b2 h k
  obtain ⟨v, vs', c1, c2, rfl, rfl, h1, h2⟩ := repVs_cons_inv h
  simpa using repVs_cons h1 (ih h2 k)
/-- The cells of a datum. -/
theorem repVs_dats : ∀ {ds : List Dat} {vs : List Value}, RepCs w R vs ds -> RepVs w R N (ds.map .dat) vs []
 | [], [], _ => repVs_nil
 | d :: ds, v :: vs, h => by
  obtain ⟨h1, h2⟩ := h
  have hv : RepV w R N (.dat d) v [] := by
   simp only [RepV]
   refine ⟨trivial, ?_⟩
   cases h1 with
   | flat h => exact .flat h
   | nil a cap => exact .nil a cap
   | slice => exact .slice _ _ _ _ _ _ (by assumption) (by assumption) (by assumption) (by assumption) (by assumption) (by assumption)
  simpa using repVs_cons hv (repVs_dats (ds := ds) h2)
 | [], _ :: _, h => h.elim
 | _ :: _, [], h => h.elim
theorem repV_dat {v : Value} {d : Dat} (h : RepD w R v d) : RepV w R N (.dat d) v [] := by simp only [RepV]; exact ⟨trivial, h⟩
theorem repV_dat_inv {v : Value} {d : Dat} {bs : List Nat} (h : RepV w R N (.dat d) v bs) : bs = [] /\ RepD w R v d := by simpa only [RepV] using h
theorem repV_flat_inv {v u : Value} {bs : List Nat} (h : RepV w R N (.dat (.flat u)) v bs) : bs = [] /\ v = u /\ isFlat u = true := by
 obtain ⟨h1, h2⟩ := repV_dat_inv h
 have h2 : RepC w R v (.flat u) := h2
 cases h2 with | flat hf => exact ⟨h1, rfl, hf⟩
theorem repV_flat {v : Value} (h : isFlat v = true) : RepV w R N (aval v) v [] := repV_dat (d := .flat v) (.flat h)
theorem repV_slice_inv {v : Value} {es : List Dat} {bs : List Nat} (h : RepV w R N (.dat (.slice es)) v bs) : bs = [] /\ RepC w R v (.slice es) := repV_dat_inv h
theorem repV_agg_inv {v : Value} {cs : List AVal} {bs : List Nat} (h : RepV w R N (.agg cs) v bs) : ∃ vs, v = .agg vs.toArray /\ RepVs w R N cs vs bs := by
 simpa only [RepV] using h
theorem repV_own_inv {v : Value} {es : List Dat} {bs : List Nat} (h : RepV w R N (.own es) v bs) : RepOwn w R v es bs := by simpa only [RepV] using h
theorem repV_undef (v : Value) : RepV w R N .undef v [] := by simp only [RepV]
/-- Of what is one cell and no owned slice, nothing is owned. -/
theorem repV_simple {a : AVal} {v : Value} {bs : List Nat} (h : RepV w R N a v bs) (h1 : ∀ es, a ≠ .own es) (h2 : ∀ cs, a ≠ .agg cs) (h3 : ∀ cs, a ≠ .tup cs) : bs = [] := by
 cases a <;> simp_all [RepV]
theorem unOwnL_rep : ∀ {as : List AVal} {vs : List Value} {bs : List Nat}, RepVs w R N as vs bs -> RepVs w R N (unOwnL as) vs []
 | [], _, _, h => by obtain ⟨rfl, rfl⟩ := repVs_nil_inv h; exact repVs_nil
 | a :: as, vs, bs, h => by
  obtain ⟨v, vs', b1, b2, rfl, rfl, h1, h2⟩ := repVs_cons_inv h
  have ih := unOwnL_rep h2
  cases a with
  | own es => simpa [unOwnL] using repVs_cons (repV_dat (d := .slice es) (repV_own_inv h1).rep) ih
  | agg cs => simpa [unOwnL] using repVs_cons (repV_undef v) ih
  | tup cs => simpa [unOwnL] using repVs_cons (repV_undef v) ih
  | _ =>
   obtain rfl := repV_simple h1 (by simp) (by simp) (by simp)
   simpa [unOwnL] using repVs_cons h1 ih
theorem datCells_rep : ∀ {cs : List AVal} {vs : List Value} {bs : List Nat} {ds : List Dat}, RepVs w R N cs vs bs -> datCells cs = some ds -> RepCs w R vs ds /\ bs = []
 | [], _, _, _, h, hd => by
  obtain ⟨rfl, rfl⟩ := repVs_nil_inv h
  simp [datCells] at hd
  subst hd
  exact ⟨trivial, rfl⟩
 | a :: cs, vs, bs, ds, h, hd => by
  obtain ⟨v, vs', b1, b2, rfl, rfl, h1, h2⟩ := repVs_cons_inv h
  unfold datCells at hd
  split at hd
  ·simp at *
  ·rename_i u r heq
   obtain ⟨rfl, rfl⟩ := List.cons.inj heq
   cases hc : datCells cs with
   | none => simp [hc] at hd
   | some ds' =>
    simp [hc] at hd
    subst hd
    obtain ⟨h3, rfl⟩ := datCells_rep h2 hc
    obtain ⟨rfl, h4⟩ := repV_dat_inv h1
    exact ⟨⟨h4, h3⟩, rfl⟩
  ·rename_i es r heq
   obtain ⟨rfl, rfl⟩ := List.cons.inj heq
   cases hc : datCells cs with
   | none => simp [hc] at hd
   | some ds' =>
    simp [hc] at hd
    subst hd
    obtain ⟨h3, rfl⟩ := datCells_rep h2 hc
    obtain ⟨rfl, h4⟩ := repV_dat_inv h1
    exact ⟨⟨h4, h3⟩, rfl⟩
  simp at hd
theorem mkAgg_rep {cs : List AVal} {vs : List Value} {bs : List Nat} (h : RepVs w R N cs vs bs) : RepV w R N (mkAgg cs) (.agg vs.toArray) bs := by
 unfold mkAgg
 split
 ·rename_i ds hd
  obtain ⟨h1, rfl⟩ := datCells_rep h hd
  exact repV_dat ⟨vs, rfl, h1⟩
 simp only [RepV]; exact ⟨vs, rfl, h⟩
theorem unOwnT_rep : ∀ {as : List AVal} {vs : List Value} {bs : List Nat}, RepVs w R N as vs bs -> RepVs w R N (unOwnT as) vs []
 | [], _, _, h => by obtain ⟨rfl, rfl⟩ := repVs_nil_inv h; exact repVs_nil
 | a :: as, vs, bs, h => by
  obtain ⟨v, vs', b1, b2, rfl, rfl, h1, h2⟩ := repVs_cons_inv h
  have ih := unOwnT_rep h2
  cases a with
  | own es => simpa [unOwnT] using repVs_cons (repV_dat (d := .slice es) (repV_own_inv h1).rep) ih
  | agg cs =>
   obtain ⟨us, rfl, h3⟩ := repV_agg_inv h1
   simpa [unOwnT] using repVs_cons (mkAgg_rep (unOwnL_rep h3)) ih
  | tup cs => simpa [unOwnT] using repVs_cons (repV_undef v) ih
  | _ =>
   obtain rfl := repV_simple h1 (by simp) (by simp) (by simp)
   simpa [unOwnT] using repVs_cons h1 ih
theorem unOwn_rep {a : AVal} {v : Value} {bs : List Nat} (h : RepV w R N a v bs) : RepV w R N (unOwn a) v [] := by
 cases a with
 | own es => exact repV_dat (d := .slice es) (repV_own_inv h).rep
 | agg cs =>
  obtain ⟨us, rfl, h3⟩ := repV_agg_inv h
  exact mkAgg_rep (unOwnL_rep h3)
 | tup cs =>
  simp only [RepV] at h
  obtain ⟨us, rfl, h3⟩ := h
  simp only [unOwn, RepV]
  exact ⟨us, rfl, unOwnT_rep h3⟩
 | _ =>
  obtain rfl := repV_simple h (by simp) (by simp) (by simp)
  exact h
theorem asDat_rep {a : AVal} {v : Value} {bs : List Nat} {d : Dat} (h : RepV w R N a v bs) (hd : asDat a = some d) : RepD w R v d := by
 cases a with
 | dat e => simp [asDat] at hd; subst hd; exact (repV_dat_inv h).2
 | own es => simp [asDat] at hd; subst hd; exact (repV_own_inv h).rep
 | agg cs =>
  obtain ⟨us, rfl, h3⟩ := repV_agg_inv h
  simp only [asDat] at hd
  split at hd
  ·rename_i ds hds
   simp at hd
   subst hd
   exact ⟨us, rfl, (datCells_rep (unOwnL_rep h3) hds).1⟩
  simp at hd
 | _ => simp [asDat] at hd
theorem repC_cells {v : Value} {d : Dat} (h : RepC w R v d) : v.cells = #[v] /\ v.oneCell' = true := by
 cases h with
 | flat h => cases v <;> simp_all [isFlat, Value.cells, Value.oneCell']
 | nil => simp [Value.cells, Value.oneCell']
 | slice => simp [Value.cells, Value.oneCell']
theorem repCs_length : ∀ {vs : List Value} {cs : List Dat}, RepCs w R vs cs -> vs.length = cs.length
 | [], [], _ => rfl
 | _ :: _, _ :: _, h => by simp [repCs_length h.2]
 | [], _ :: _, h => h.elim
 | _ :: _, [], h => h.elim
/-- The cells of a datum's value. -/
theorem repD_cells {v : Value} {d : Dat} (h : RepD w R v d) : RepCs w R v.cells.toList d.cells := by
 cases d with
 | agg cs => obtain ⟨vs, rfl, h⟩ := h; simpa [Value.cells, Dat.cells] using h
 | flat u => rw [(repC_cells (d := .flat u) h).1]; exact ⟨h, trivial⟩
 | slice es => rw [(repC_cells (d := .slice es) h).1]; exact ⟨h, trivial⟩
theorem acells_rep {a : AVal} {v : Value} {bs : List Nat} (h : RepV w R N a v bs) (hk : okCells (acells a) = true) : RepVs w R N (acells a) v.cells.toList bs := by
 cases a with
 | agg cs => obtain ⟨us, rfl, h3⟩ := repV_agg_inv h; simpa [acells, Value.cells] using h3
 | dat d =>
  obtain ⟨rfl, hd⟩ := repV_dat_inv h
  cases d with
  | agg cs => obtain ⟨vs, rfl, h1⟩ := hd; simpa [acells, Value.cells] using repVs_dats h1
  | flat u => rw [(repC_cells (d := .flat u) hd).1]; simpa [acells] using repVs_cons h repVs_nil
  | slice es => rw [(repC_cells (d := .slice es) hd).1]; simpa [acells] using repVs_cons h repVs_nil
 | undef => simp [acells, okCells, okCell] at hk
 | tup cs => simp [acells, okCells, okCell] at hk
 | own es =>
  have : v.cells = #[v] := (repC_cells (repV_own_inv h).rep).1
  rw [this]
  simpa [acells] using repVs_cons h repVs_nil
 | ref cs => 
  have h' := h
  simp only [RepV] at h'
  obtain ⟨rfl, b, off, rfl, _⟩ := h'
  simpa [acells, Value.cells] using repVs_cons h repVs_nil
 | ptr n o =>
  have h' := h
  simp only [RepV] at h'
  obtain ⟨rfl, b, _, rfl⟩ := h'
  simpa [acells, Value.cells] using repVs_cons h repVs_nil
 | map n =>
  have h' := h
  simp only [RepV] at h'
  obtain ⟨rfl, b, _, rfl⟩ := h'
  simpa [acells, Value.cells] using repVs_cons h repVs_nil
 | win n s off len =>
  have h' := h
  simp only [RepV] at h'
  obtain ⟨rfl, b, cap, _, rfl, _⟩ := h'
  simpa [acells, Value.cells] using repVs_cons h repVs_nil
 | fn f x y =>
  have h' := h
  simp only [RepV] at h'
  obtain ⟨rfl, vs, us, rfl, _⟩ := h'
  simpa [acells, Value.cells] using repVs_cons h repVs_nil
theorem okCell_one {a : AVal} {v : Value} {bs : List Nat} (h : RepV w R N a v bs) (hk : okCell a = true) : v.oneCell' = true := by
 cases a with
 | dat d =>
  obtain ⟨rfl, hd⟩ := repV_dat_inv h
  cases d with
  | agg cs => simp [okCell] at hk
  | flat u => exact (repC_cells (d := .flat u) hd).2
  | slice es => exact (repC_cells (d := .slice es) hd).2
 | own es => exact (repC_cells (repV_own_inv h).rep).2
 | ref cs => simp only [RepV] at h; obtain ⟨rfl, b, off, rfl, _⟩ := h; rfl
 | ptr n o => simp only [RepV] at h; obtain ⟨rfl, b, _, rfl⟩ := h; rfl
 | map n => simp only [RepV] at h; obtain ⟨rfl, b, _, rfl⟩ := h; rfl
 | win n s off len => simp only [RepV] at h; obtain ⟨rfl, b, cap, _, rfl, _⟩ := h; rfl
 | fn f x y => simp only [RepV] at h; obtain ⟨rfl, vs, us, rfl, _⟩ := h; rfl
 | _ => simp [okCell] at hk
theorem okCells_one : ∀ {as : List AVal} {vs : List Value} {bs : List Nat}, RepVs w R N as vs bs -> okCells as = true -> ∀ v ∈ vs, v.oneCell' = true
 | [], _, _, h, _, v, hv => by obtain ⟨rfl, rfl⟩ := repVs_nil_inv h; simp at hv
 | a :: as, _, _, h, hk, v, hv => by
  obtain ⟨u, vs', b1, b2, rfl, rfl, h1, h2⟩ := repVs_cons_inv h
  simp [okCells] at hk
  rcases List.mem_cons.1 hv with rfl | hv
  ·exact okCell_one h1 hk.1
  exact okCells_one h2 hk.2 v hv
theorem constL_rep : ∀ (vs : List Value), RepVs w R N (constL vs) vs []
 | [] => repVs_nil
 | v :: vs => by
  have ih := constL_rep vs
  unfold constL
  split
  ·rename_i hf; exact repVs_cons (b1 := []) (repV_flat hf) ih
  simpa using repVs_cons (repV_undef v) ih
theorem ofConst_rep (v : Value) : RepV w R N (ofConst v) v [] := by
 unfold ofConst
 split
 ·rename_i cs
  have := mkAgg_rep (constL_rep (w := w) (R := R) (N := N) cs.toList)
  simpa using this
 ·exact repV_undef _
 split
 ·rename_i hf; exact repV_flat hf
 exact repV_undef _
theorem repV_nz {a : AVal} {v : Value} {bs : List Nat} (h : RepV w R N a v bs) : RepV w R N (nz a) v bs := by
 unfold nz
 split
 ·obtain ⟨rfl, rfl, _⟩ := repV_flat_inv h
  exact repV_dat (d := .slice []) (.nil none 0)
 exact h
theorem repV_ownz {a : AVal} {v : Value} {bs : List Nat} (h : RepV w R N a v bs) : RepV w R N (ownz a) v bs := by
 unfold ownz
 split
 ·obtain ⟨rfl, rfl, _⟩ := repV_flat_inv h
  simp only [RepV]; exact .nil
 exact h
theorem repVs_nz : ∀ {as : List AVal} {vs : List Value} {bs : List Nat}, RepVs w R N as vs bs -> RepVs w R N (nzL as) vs bs
 | [], _, _, h => h
 | _ :: _, _, _, h => by
  obtain ⟨v, vs', b1, b2, rfl, rfl, h1, h2⟩ := repVs_cons_inv h
  exact repVs_cons (repV_nz h1) (repVs_nz h2)
end
end Go.Tp

namespace Go.Tp
section
variable {P : Program} {E : TEnv} {w : World} {R : Own} {N : Name -> Option Nat}
theorem TEnv.Ok.desc_bool (hE : E.Ok P) {t : TypeId} (h : E.desc t = some .bool) : P.underlying t = some .bool := by
 unfold TEnv.desc at h
 split at h
 ·rename_i i hi; have := (hE.ty t i hi).2; simp at h; rw [h] at this; exact this
 simp at h
theorem TEnv.Ok.desc_int (hE : E.Ok P) {t : TypeId} {k : IntKind} (h : E.desc t = some (.int k)) : P.underlying t = some (.int k) := by
 unfold TEnv.desc at h
 split at h
 ·rename_i i hi; have := (hE.ty t i hi).2; simp at h; rw [h] at this; exact this
 simp at h
theorem TEnv.Ok.desc_string (hE : E.Ok P) {t : TypeId} (h : E.desc t = some .string) : P.underlying t = some .string := by
 unfold TEnv.desc at h
 split at h
 ·rename_i i hi; have := (hE.ty t i hi).2; simp at h; rw [h] at this; exact this
 simp at h
theorem TEnv.Ok.desc_pointer (hE : E.Ok P) {t : TypeId} (h : E.desc t = some .pointer) : ∃ e, P.underlying t = some (.pointer e) := by
 unfold TEnv.desc at h
 split at h
 ·rename_i i hi; have := (hE.ty t i hi).2; simp at h; rw [h] at this; exact this
 simp at h
theorem TEnv.Ok.desc_slice (hE : E.Ok P) {t e : TypeId} (h : E.desc t = some (.slice e)) : P.underlying t = some (.slice e) := by
 unfold TEnv.desc at h
 split at h
 ·rename_i i hi; have := (hE.ty t i hi).2; simp at h; rw [h] at this; exact this
 simp at h
theorem TEnv.Ok.desc_map (hE : E.Ok P) {t k e : TypeId} (h : E.desc t = some (.map k e)) : P.underlying t = some (.map k e) := by
 unfold TEnv.desc at h
 split at h
 ·rename_i i hi; have := (hE.ty t i hi).2; simp at h; rw [h] at this; exact this
 simp at h
theorem TEnv.Ok.desc_struct (hE : E.Ok P) {t : TypeId} {fs : List (Nat × TypeId)} (h : E.desc t = some (.struct fs)) :
  ∃ fields : Array Field, P.underlying t = some (.struct fields) /\ fields.toList.map (fun f => (f.offset, f.type)) = fs ∧
   ∃ places, fields.toList.mapM (fun f => (P.info? f.type).map fun i => (f.offset, i.size)) = some places := by
 unfold TEnv.desc at h
 split at h
 ·rename_i i hi; have := (hE.ty t i hi).2; simp at h; rw [h] at this; exact this
 simp at h
theorem TEnv.Ok.desc_array (hE : E.Ok P) {t e : TypeId} {n : Nat} (h : E.desc t = some (.array n e)) : P.underlying t = some (.array n e) := by
 unfold TEnv.desc at h
 split at h
 ·rename_i i hi; have := (hE.ty t i hi).2; simp at h; rw [h] at this; exact this
 simp at h
theorem run_und {t : TypeId} {d : TypeDesc} (h : P.underlying t = some d) : (underlying t).run P w = .ok d w := by
 simp [underlying, h]
theorem run_info {t : TypeId} {i : TypeInfo} (h : P.info? t = some i) : (typeInfo t).run P w = .ok i w := by
 simp [typeInfo, h]
theorem TEnv.Ok.run_size (hE : E.Ok P) {t : TypeId} {i : TI} (h : E.ty t = some i) : (sizeOf t).run P w = .ok i.size w := by
 obtain ⟨⟨j, h1, h2, _⟩, _⟩ := hE.ty t i h
 simp [sizeOf, run_info h1, h2]
theorem TEnv.Ok.run_zero (hE : E.Ok P) {t : TypeId} {i : TI} (h : E.ty t = some i) : (zeroValue t).run P w = .ok i.zero w := by
 obtain ⟨⟨j, h1, _, _, h4, _⟩, _⟩ := hE.ty t i h
 simp [zeroValue, run_info h1, h4]
theorem TEnv.Ok.run_isAgg (hE : E.Ok P) {t : TypeId} {i : TI} (h : E.ty t = some i) : (isAgg t).run P w = .ok i.isAgg w := by
 have hk := (hE.ty t i h).2
 unfold isAgg TI.isAgg
 cases hd : i.desc with
 | bool => rw [hd] at hk; simp [run_und hk]
 | int k => rw [hd] at hk; simp [run_und hk]
 | string => rw [hd] at hk; simp [run_und hk]
 | pointer => rw [hd] at hk; obtain ⟨e, hk⟩ := hk; simp [run_und hk]
 | slice e => rw [hd] at hk; simp [run_und hk]
 | map k e => rw [hd] at hk; simp [run_und hk]
 | func => rw [hd] at hk; obtain ⟨a, b, c, hk⟩ := hk; simp [run_und hk]
 | struct fs => rw [hd] at hk; obtain ⟨fields, hk, _⟩ := hk; simp [run_und hk]
 | array n e => rw [hd] at hk; simp [run_und hk]
/-! #### Scalars -/
theorem isFlat_int {k : IntKind} {a : Int} : isFlat (.int k a) = true ↔ k.min <= a /\ a <= k.max := by simp [isFlat]
theorem isFlat_wrap (k : IntKind) (n : Int) : isFlat (.int k (k.wrap n)) = true := isFlat_int.2 (wrap_within k n)
theorem kind_zero (k : IntKind) : k.min <= 0 /\ 0 <= k.max := by cases k <;> simp [IntKind.min, IntKind.max, IntKind.bits, IntKind.signed]
theorem tmod_within {k : IntKind} {a b : Int} (h : isFlat (.int k a) = true) : isFlat (.int k (a.tmod b)) = true := by
 rw [isFlat_int] at h ⊢
 have hz := kind_zero k
 rcases Int.le_total 0 a with ha | ha
 ·have h1 := Int.tmod_nonneg b ha
  have h2 : a.tmod b <= a := by
   have h3 := Int.natAbs_tmod a b
   have h4 := Nat.mod_le a.natAbs b.natAbs
   omega
  omega
 have h1 : a.tmod b <= 0 := by
  have := Int.tmod_nonneg b (show 0 <= -a by omega)
  rw [Int.neg_tmod] at this
  omega
 have h2 : a <= a.tmod b := by
  have h3 := Int.natAbs_tmod a b
  have h4 := Nat.mod_le a.natAbs b.natAbs
  omega
 omega
theorem fdiv_within {k : IntKind} {a : Int} (m : Nat) (h : isFlat (.int k a) = true) : isFlat (.int k (a.fdiv (2 ^ m))) = true := by
 rw [isFlat_int] at h ⊢
 have hz := kind_zero k
 have hp : (0 : Int) < 2 ^ m := Int.pow_pos (by decide)
 have e : a.fdiv (2 ^ m) = a / 2 ^ m := Int.fdiv_eq_ediv_of_nonneg a (Int.le_of_lt hp)
 rw [e]
 rcases Int.le_total 0 a with ha | ha
 ·have h1 := Int.ediv_nonneg ha (Int.le_of_lt hp)
  have h2 := Int.ediv_le_self (2 ^ m) ha
  omega
 have h1 : a / 2 ^ m <= 0 := by
  have := Int.ediv_le_ediv hp ha
  simpa using this
 have h2 : a <= a / 2 ^ m := by
  apply Int.le_ediv_of_mul_le hp
  have : a * 2 ^ m <= a * 1 := Int.mul_le_mul_of_nonpos_left ha (by omega)
  omega
 omega
theorem intBin_run {op : BinOp} {k : IntKind} {a b : Int} {v : Value} (h : intBin Prims.std op k a b = some v) (ha : isFlat (.int k a) = true) (h1 : op ≠ .shl) (h2 : op ≠ .shr) (t : TypeId) :
  (binOp op t (.int k a) (.int k b)).run P w = .ok v w /\ isFlat v = true := by
 cases op <;> simp only [intBin, Prims.std, beq_iff_eq, Option.some.injEq, reduceCtorEq, Option.ite_none_left_eq_some] at h <;> first
  |(subst h; exact ⟨by simp [binOp, Op.intArith, Op.intCmp], isFlat_wrap _ _⟩)
  |(subst h; simp [binOp, Op.intArith, Op.intCmp, isFlat]; done)
  |(subst h; refine ⟨?_, rfl⟩; simp [binOp, Op.intCmp]; done)
  |(subst h; refine ⟨?_, rfl⟩; simp [binOp, Op.intCmp]; rfl)
  |(subst h; refine ⟨?_, rfl⟩; simp [binOp, Op.intCmp]; rw [Bool.eq_iff_iff]; simp)
  |(obtain ⟨h0, rfl⟩ := h; exact ⟨by simp [binOp, Op.intDiv, h0], isFlat_wrap _ _⟩)
  |(obtain ⟨h0, rfl⟩ := h; exact ⟨by simp [binOp, Op.intDiv, h0], tmod_within ha⟩)
  |(exact absurd rfl h1)
  |(exact absurd rfl h2)
theorem strBin_run {op : BinOp} {a b : ByteArray} {v : Value} (h : strBin Prims.std op a b = some v) (t : TypeId) :
  (binOp op t (.string a) (.string b)).run P w = .ok v w /\ isFlat v = true := by
 cases op <;> simp [strBin, Prims.std] at h <;> first
  |(subst h; simp [binOp, Op.stringOp, isFlat])
  |(split at h
    ·rename_i hz
     simp at hz h
     obtain ⟨h0, rfl⟩ := hz
     subst h
     simp [binOp, Op.stringOp, isFlat]
     omega
    ·simp at h)
theorem run_eqIn_bool (d : Nat) {t : TypeId} (h : P.underlying t = some .bool) (a b : Bool) : (Op.equalIn (d + 1) t (.bool a) (.bool b)).run P w = .ok (a == b) w := by
 simp [Op.equalIn, run_und h]
theorem run_eqIn_nil (d : Nat) {t e : TypeId} (h : P.underlying t = some (.pointer e)) (a : Option Addr) : (Op.equalIn (d + 1) t (.pointer a) (.pointer none)).run P w = .ok a.isNone w := by
 cases a <;> simp [Op.equalIn, run_und h]
theorem run_eqIn_nilmap (d : Nat) {t k e : TypeId} (h : P.underlying t = some (.map k e)) (a : Option Nat) : (Op.equalIn (d + 1) t (.map a) (.map none)).run P w = .ok a.isNone w := by
 cases a <;> simp [Op.equalIn, run_und h]
theorem run_eqIn_nilslice (d : Nat) {t e : TypeId} (h : P.underlying t = some (.slice e)) (a : Option Addr) (l c : Nat) : (Op.equalIn (d + 1) t (.slice a l c) (.slice none 0 0)).run P w = .ok a.isNone w := by
 cases a <;> simp [Op.equalIn, run_und h]
theorem run_eql_slice {t e : TypeId} (h : P.underlying t = some (.slice e)) (a : Option Addr) (l c : Nat) :
  (binOp .eql t (.slice a l c) (.slice none 0 0)).run P w = .ok (.bool a.isNone) w /\ (binOp .neq t (.slice a l c) (.slice none 0 0)).run P w = .ok (.bool !a.isNone) w := by
 have h' : (Op.equal t (.slice a l c) (.slice none 0 0)).run P w = .ok a.isNone w := run_eqIn_nilslice 9999 h a l c
 constructor <;> simp only [binOp, Sem.run_bind, h'] <;> rfl
theorem run_eql_bool {t : TypeId} (h : P.underlying t = some .bool) (a b : Bool) :
  (binOp .eql t (.bool a) (.bool b)).run P w = .ok (.bool (a == b)) w /\ (binOp .neq t (.bool a) (.bool b)).run P w = .ok (.bool !(a == b)) w := by
 have h' : (Op.equal t (.bool a) (.bool b)).run P w = .ok (a == b) w := run_eqIn_bool 9999 h a b
 constructor <;> simp only [binOp, Sem.run_bind, h'] <;> rfl
theorem run_eql_ptr {t e : TypeId} (h : P.underlying t = some (.pointer e)) (a : Option Addr) :
  (binOp .eql t (.pointer a) (.pointer none)).run P w = .ok (.bool a.isNone) w /\ (binOp .neq t (.pointer a) (.pointer none)).run P w = .ok (.bool !a.isNone) w := by
 have h' : (Op.equal t (.pointer a) (.pointer none)).run P w = .ok a.isNone w := run_eqIn_nil 9999 h a
 constructor <;> simp only [binOp, Sem.run_bind, h'] <;> rfl
theorem run_eql_map {t k e : TypeId} (h : P.underlying t = some (.map k e)) (a : Option Nat) :
  (binOp .eql t (.map a) (.map none)).run P w = .ok (.bool a.isNone) w /\ (binOp .neq t (.map a) (.map none)).run P w = .ok (.bool !a.isNone) w := by
 have h' : (Op.equal t (.map a) (.map none)).run P w = .ok a.isNone w := run_eqIn_nilmap 9999 h a
 constructor <;> simp only [binOp, Sem.run_bind, h'] <;> rfl
theorem flatBin_run (hE : E.Ok P) {op : BinOp} {t : TypeId} {x y v : Value} (h : flatBin E.pr op (E.desc t) x y = some v) (hx : isFlat x = true) (X Y : Operand) :
  ((do eqGuard op t X Y x y; binOp op t x y) : Sem Value).run P w = .ok v w /\ isFlat v = true := by
 rw [hE.std] at h
 unfold flatBin at h
 split at h
 ·rename_i k a k' b
  split at h
  ·simp at h
  rename_i hb
  simp [Prims.std] at h hb
  subst h
  exact ⟨by simp [eqGuard, binOp, Op.shift]; intro hc; omega, isFlat_wrap _ _⟩
 ·rename_i k a k' b
  split at h
  ·simp at h
  rename_i hb
  simp [Prims.std] at h hb
  subst h
  exact ⟨by simp [eqGuard, binOp, Op.shift]; intro hc; omega, fdiv_within _ hx⟩
 ·rename_i k a k' b hs1 hs2
  split at h
  ·rename_i hk
   subst hk
   obtain ⟨h1, h2⟩ := intBin_run (P := P) (w := w) h hx hs1 hs2 t
   refine ⟨?_, h2⟩
   simp only [Sem.run_bind]
   have : (eqGuard op t X Y (.int k a) (.int k b)).run P w = .ok () w := by
    unfold eqGuard; cases op <;> simp
   rw [this]
   simpa using h1
  simp at h
 ·rename_i a b
  obtain ⟨h1, h2⟩ := strBin_run (P := P) (w := w) h t
  refine ⟨?_, h2⟩
  simp only [Sem.run_bind]
  have : (eqGuard op t X Y (.string a) (.string b)).run P w = .ok () w := by
   unfold eqGuard; cases op <;> simp
  rw [this]
  simpa using h1
 ·split at h
  ·rename_i hd
   simp at h
   subst h
   have hb := fun a b => (run_eql_bool (w := w) (hE.desc_bool hd) a b).1
   exact ⟨by simp [eqGuard, hb], rfl⟩
  simp at h
 ·split at h
  ·rename_i hd
   simp at h
   subst h
   have hb := fun a b => (run_eql_bool (w := w) (hE.desc_bool hd) a b).2
   exact ⟨by simp [eqGuard, hb], rfl⟩
  simp at h
 ·split at h
  ·rename_i hd
   obtain ⟨e, he⟩ := hE.desc_pointer hd
   simp at h
   subst h
   have hb := fun a => (run_eql_ptr (w := w) he a).1
   exact ⟨by simp [eqGuard, hb], rfl⟩
  simp at h
 ·split at h
  ·rename_i hd
   obtain ⟨e, he⟩ := hE.desc_pointer hd
   simp at h
   subst h
   have hb := fun a => (run_eql_ptr (w := w) he a).2
   exact ⟨by simp [eqGuard, hb], rfl⟩
  simp at h
 simp at h
end
end Go.Tp

namespace Go.Tp
section
variable {P : Program} {E : TEnv} {w : World} {R : Own} {N : Name -> Option Nat}
theorem add_plain (b off n : Nat) : (Addr.add ⟨b, off, none⟩ n) = ⟨b, off + n, none⟩ := by
 unfold Addr.add
 split
 ·rename_i h; subst h; rfl
 rfl
theorem fieldOf_ok (hE : E.Ok P) {st : TypeId} {f off : Nat} {i : TI} (h : fieldOf E st f = some (off, i)) :
  ∃ (fields : Array Field) (fld : Field), P.underlying st = some (.struct fields) /\ fields[f]? = some fld /\ fld.offset = off /\ E.ty fld.type = some i := by
 unfold fieldOf at h
 split at h
 ·rename_i fs hd
  obtain ⟨fields, hu, hm, _⟩ := hE.desc_struct hd
  split at h
  ·rename_i off' ft hf
   split at h
   ·rename_i j hj
    simp at h
    obtain ⟨rfl, rfl⟩ := h
    rw [← hm, List.getElem?_map] at hf
    cases hg : fields.toList[f]? with
    | none => simp [hg] at hf
    | some fld =>
     simp [hg] at hf
     exact ⟨fields, fld, hu, by simpa using hg, hf.1, by rw [hf.2]; exact hj⟩
   simp at h
  simp at h
 simp at h
theorem repAt_drop : ∀ {cs : List Dat} {b off : Nat} (k : Nat), RepAt w R b off cs -> RepAt w R b (off + k) (cs.drop k)
 | cs, b, off, 0, h => by simpa using h
 | [], _, _, k + 1, _ => by simp [RepAt]
 | c :: cs, b, off, k + 1, h => by
  have := repAt_drop k h.2
  simpa [Nat.add_assoc, Nat.add_comm 1 k] using this
theorem run_fieldAt (hE : E.Ok P) {st : TypeId} {f off : Nat} {i : TI} (h : fieldOf E st f = some (off, i)) (h0 : i.size ≠ 0) (b o : Nat) :
  (Instr.fieldAt st (.pointer (some ⟨b, o, none⟩)) f).run P w = .ok (.pointer (some ⟨b, o + off, none⟩)) w := by
 obtain ⟨fields, fld, h1, h2, h3, h4⟩ := fieldOf_ok hE h
 simp [Instr.fieldAt, run_und h1, h2, Instr.sureAddr, fieldPlace, hE.run_size h4, h0, add_plain, h3]
theorem sound_fieldAddr (hE : E.Ok P) {st : TypeId} {f : Nat} {a : AVal} {x : Value} {out : Out} (h : aFieldAddr E st f [a] = some out) (hr : RepV w R N a x []) :
  out.eff = .keep /\ ∃ cv, (Instr.fieldAt st x f).run P w = .ok cv w /\ RepV w R N out.val cv [] := by
 cases a with
 | ref cs =>
  simp only [RepV] at hr
  obtain ⟨_, b, o, rfl, hat⟩ := hr
  simp only [aFieldAddr] at h
  split at h
  ·rename_i off i hf
   split at h
   ·simp at h
   rename_i h0
   simp at h
   subst h
   exact ⟨rfl, _, run_fieldAt hE hf h0 b o, by simp only [RepV]; exact ⟨trivial, b, _, rfl, repAt_drop off hat⟩⟩
  simp at h
 | ptr n o =>
  simp only [RepV] at hr
  obtain ⟨_, b, hb, rfl⟩ := hr
  simp only [aFieldAddr] at h
  split at h
  ·rename_i off i hf
   split at h
   ·simp at h
   rename_i h0
   simp at h
   subst h
   exact ⟨rfl, _, run_fieldAt hE hf h0 b o, by simp only [RepV]; exact ⟨trivial, b, hb, rfl⟩⟩
  simp at h
 | _ => simp [aFieldAddr] at h
/-! #### Cells in rows -/
theorem repCs_drop : ∀ {vs : List Value} {cs : List Dat} (k : Nat), RepCs w R vs cs -> RepCs w R (vs.drop k) (cs.drop k)
 | vs, cs, 0, h => by simpa using h
 | [], [], _ + 1, _ => trivial
 | _ :: vs, _ :: cs, k + 1, h => by simpa using repCs_drop k h.2
 | [], _ :: _, _, h => h.elim
 | _ :: _, [], _, h => h.elim
theorem repCs_take : ∀ {vs : List Value} {cs : List Dat} (k : Nat), RepCs w R vs cs -> RepCs w R (vs.take k) (cs.take k)
 | vs, cs, 0, _ => by simp [RepCs]
 | [], [], _ + 1, _ => trivial
 | _ :: vs, _ :: cs, k + 1, h => by simpa [RepCs] using ⟨h.1, repCs_take k h.2⟩
 | [], _ :: _, _, h => h.elim
 | _ :: _, [], _, h => h.elim
/-- The values of immutable cells. -/
theorem repAt_vals : ∀ {cs : List Dat} {b off : Nat}, RepAt w R b off cs -> ∃ vs : List Value, RepCs w R vs cs /\ ∀ (j : Nat) (v : Value), vs[j]? = some v -> w.cell? ⟨b, off + j, none⟩ = some v
 | [], _, _, _ => ⟨[], trivial, by simp⟩
 | c :: cs, b, off, h => by
  obtain ⟨v, hc, _, hr⟩ := h.1
  obtain ⟨vs, h1, h2⟩ := repAt_vals h.2
  refine ⟨v :: vs, ⟨hr, h1⟩, fun j u hj => ?_⟩
  cases j with
  | zero => simp at hj; subst hj; simpa using hc
  | succ j => simp at hj; have := h2 j u hj; simpa [Nat.add_assoc, Nat.add_comm 1 j] using this
/-- Cells that lie in a row, loaded as a variable of the type. -/
theorem run_loadVar (hE : E.Ok P) {t : TypeId} {i : TI} (ht : E.ty t = some i) {b off : Nat} {vs : List Value}
  (hc : ∀ (j : Nat) (v : Value), vs[j]? = some v -> w.cell? ⟨b, off + j, none⟩ = some v) (hn : i.size <= vs.length) (h1 : i.isAgg = false -> 0 < vs.length) :
  (loadVar t ⟨b, off, none⟩).run P w = .ok (if i.isAgg then .agg (vs.take i.size).toArray else vs.headD undef) w := by
 unfold loadVar
 simp only [Sem.run_bind, hE.run_isAgg ht, Result.andThen_ok]
 cases ha : i.isAgg with
 | true =>
  simp only [if_true, Sem.run_bind, hE.run_size ht, Result.andThen_ok]
  have := run_loadCells_list (P := P) (w := w) ⟨b, off, none⟩ (vs.take i.size) (fun j v hj => by
   rw [add_plain]
   refine hc j v ?_
   rw [List.getElem?_take] at hj
   split at hj
   ·exact hj
   simp at hj)
  rw [show (vs.take i.size).length = i.size by simp; omega] at this
  rw [this]
  simp
 | false =>
  have h0 := h1 ha
  cases vs with
  | nil => simp at h0
  | cons v vs =>
   have := hc 0 v (by simp)
   simp at this
   simp [this]
theorem loadDats_rep (hE : E.Ok P) {t : TypeId} {i : TI} (ht : E.ty t = some i) {cs : List Dat} {v : AVal} (h : loadDats i cs = some v) {b off : Nat} (hat : RepAt w R b off cs) :
  ∃ cv, (loadVar t ⟨b, off, none⟩).run P w = .ok cv w /\ RepV w R N v cv [] := by
 obtain ⟨vs, h1, h2⟩ := repAt_vals hat
 have hl := repCs_length h1
 unfold loadDats at h
 split at h
 ·rename_i ha
  dsimp only at h
  split at h
  ·rename_i hlen
   simp at h
   subst h
   simp at hlen
   refine ⟨_, run_loadVar hE ht h2 (by omega) (by simp [ha]), ?_⟩
   rw [if_pos ha]
   exact repV_dat ⟨vs.take i.size, rfl, repCs_take _ h1⟩
  simp at h
 rename_i ha
 have ha' : i.isAgg = false := by simpa using ha
 cases vs with
 | nil =>
  cases cs with
  | nil => simp at h
  | cons c cs => simp at hl
 | cons u us =>
  cases cs with
  | nil => simp at hl
  | cons c cs =>
   have hsz : i.size <= (u :: us).length ∨ True := .inr trivial
   have hrun : (loadVar t ⟨b, off, none⟩).run P w = .ok u w := by
    unfold loadVar
    have h0 := h2 0 u (by simp)
    simp at h0
    simp [hE.run_isAgg ht, ha', h0]
   refine ⟨u, hrun, ?_⟩
   obtain ⟨hu, _⟩ := h1
   cases c with
   | flat x => simp at h; subst h; exact repV_dat (d := .flat x) hu
   | slice es => simp at h; subst h; exact repV_dat (d := .slice es) hu
   | agg ds => simp at h
end
end Go.Tp

namespace Go.Tp
section
variable {P : Program} {E : TEnv} {w : World} {R : Own} {N : Name -> Option Nat}
theorem sound_bin (hE : E.Ok P) {op : BinOp} {t : TypeId} {a b : AVal} {x y : Value} {out : Out} (h : aBin E op t [a, b] = some out)
  (ha : RepV w R N a x []) (hb : RepV w R N b y []) (X Y : Operand) :
  out.eff = .keep /\ ∃ cv, ((do eqGuard op t X Y x y; binOp op t x y) : Sem Value).run P w = .ok cv w /\ RepV w R N out.val cv [] := by
 unfold aBin at h
 split at h
 ·rename_i u v heq
  simp at heq
  obtain ⟨rfl, rfl⟩ := heq
  obtain ⟨_, rfl, hx⟩ := repV_flat_inv ha
  obtain ⟨_, rfl, _⟩ := repV_flat_inv hb
  cases hf : flatBin E.pr op (E.desc t) x y with
  | none => simp [hf, ofV] at h
  | some r =>
   simp [hf, ofV] at h
   subst h
   obtain ⟨h1, h2⟩ := flatBin_run (w := w) hE hf hx X Y
   exact ⟨rfl, r, h1, repV_flat h2⟩
 ·rename_i u v _ heq
  simp at heq
  obtain ⟨rfl, rfl⟩ := heq
  cases hf : nilBin op (E.desc t) a b with
  | none => simp [hf, ofV] at h
  | some r =>
   simp [hf, ofV] at h
   subst h
   unfold nilBin at hf
   split at hf
   ·have hd : E.desc t = some .pointer := by assumption
    obtain ⟨e, he⟩ := hE.desc_pointer hd
    obtain ⟨_, rfl, _⟩ := repV_flat_inv hb
    simp only [RepV] at ha
    obtain ⟨_, bl, _, rfl⟩ := ha
    have hb := fun a => run_eql_ptr (w := w) he a
    cases op <;> simp at hf <;> subst hf <;> refine ⟨rfl, _, ?_, repV_flat rfl⟩ <;> simp [eqGuard, hb]
   ·have hd : E.desc t = some .pointer := by assumption
    obtain ⟨e, he⟩ := hE.desc_pointer hd
    obtain ⟨_, rfl, _⟩ := repV_flat_inv hb
    simp only [RepV] at ha
    obtain ⟨_, bl, o, rfl, _⟩ := ha
    have hb := fun a => run_eql_ptr (w := w) he a
    cases op <;> simp at hf <;> subst hf <;> refine ⟨rfl, _, ?_, repV_flat rfl⟩ <;> simp [eqGuard, hb]
   ·obtain ⟨k, e, hd⟩ : ∃ k e, E.desc t = some (.map k e) := ⟨_, _, by assumption⟩
    have he := hE.desc_map hd
    obtain ⟨_, rfl, _⟩ := repV_flat_inv hb
    simp only [RepV] at ha
    obtain ⟨_, bl, _, rfl⟩ := ha
    have hb := fun a => run_eql_map (w := w) he a
    cases op <;> simp at hf <;> subst hf <;> refine ⟨rfl, _, ?_, repV_flat rfl⟩ <;> simp [eqGuard, hb]
   simp at hf
 simp at h
theorem sound_nilSlice (hE : E.Ok P) {op : BinOp} {t : TypeId} {a b : AVal} {x : Value} {out : Out} (h : aNilSlice E op t [a, b] = some out)
  (ha : RepV w R N a x []) (X Y : Operand) :
  out.eff = .keep /\ ∃ cv, ((do eqGuard op t X Y x (.slice none 0 0); binOp op t x (.slice none 0 0)) : Sem Value).run P w = .ok cv w /\ RepV w R N out.val cv [] := by
 simp only [aNilSlice] at h
 split at h
 ·obtain ⟨e, hd⟩ : ∃ e, E.desc t = some (.slice e) := ⟨_, by assumption⟩
  have he := hE.desc_slice hd
  have key : ∀ ad l c, x = .slice (some ad) l c -> notNil op = some out ->
    out.eff = .keep /\ ∃ cv, ((do eqGuard op t X Y x (.slice none 0 0); binOp op t x (.slice none 0 0)) : Sem Value).run P w = .ok cv w /\ RepV w R N out.val cv [] := by
   intro ad l c hx h
   subst hx
   have hb := fun a => run_eql_slice (w := w) he a l c
   cases op <;> simp [notNil] at h <;> subst h <;> refine ⟨rfl, _, ?_, repV_flat rfl⟩ <;> simp [eqGuard, hb]
  split at h
  ·simp only [RepV] at ha
   obtain ⟨_, bl, cap, _, rfl, _⟩ := ha
   exact key _ _ _ rfl h
  ·simp only [RepV] at ha
   obtain ⟨_, ha⟩ := ha
   cases ha with
   | slice b off cap s es vs hs hlen hcap hb hcell hrep => exact key _ _ _ rfl h
  ·obtain ⟨_, rfl, _⟩ := repV_flat_inv ha
   have hb := run_eql_slice (w := w) he none 0 0
   cases op <;> simp [yesNil] at h <;> subst h <;> refine ⟨rfl, _, ?_, repV_flat rfl⟩ <;> simp [eqGuard, hb]
  simp at h
 simp at h
theorem sound_un (hE : E.Ok P) {op : UnOp} {a : AVal} {x : Value} {out : Out} (h : aUn E op [a] = some out) (ha : RepV w R N a x []) :
  out.eff = .keep /\ ∃ cv, (Op.unary op x).run P w = .ok cv w /\ RepV w R N out.val cv [] := by
 unfold aUn at h
 split at h
 ·rename_i b heq
  simp at heq
  subst heq
  obtain ⟨_, rfl, _⟩ := repV_flat_inv ha
  cases op <;> simp at h
  subst h
  exact ⟨rfl, _, by simp [Op.unary], repV_flat rfl⟩
 ·rename_i k n heq
  simp at heq
  subst heq
  obtain ⟨_, rfl, _⟩ := repV_flat_inv ha
  cases op <;> simp [hE.std, Prims.std] at h
  subst h
  refine ⟨rfl, .int k (k.wrap (0 - n)), by simp [Op.unary, Op.intArith], ?_⟩
  simpa using repV_flat (N := N) (R := R) (w := w) (v := .int k (k.wrap (0 - n))) (isFlat_wrap _ _)
 simp at h
theorem repCs_of_get : ∀ {vs : List Value} {cs : List Dat}, vs.length = cs.length -> (∀ (j : Nat) v c, vs[j]? = some v -> cs[j]? = some c -> RepC w R v c) -> RepCs w R vs cs
 | [], [], _, _ => trivial
 | v :: vs, c :: cs, hl, h => ⟨h 0 v c (by simp) (by simp), repCs_of_get (by simpa using hl) (fun j v c h1 h2 => h (j + 1) v c (by simpa using h1) (by simpa using h2))⟩
 | [], _ :: _, hl, _ => by simp at hl
 | _ :: _, [], hl, _ => by simp at hl
theorem byteInts_cells : ∀ {es : List Dat} {ns : List Int} {cells : List Value}, byteInts es = some ns -> RepCs w R cells es -> cells = ns.map (Value.int .u8) /\ ns.length = es.length
 | [], ns, cells, h, hr => by
  simp [byteInts] at h
  subst h
  cases cells with
  | nil => exact ⟨rfl, rfl⟩
  | cons => exact hr.elim
 | d :: es, ns, cells, h, hr => by
  unfold byteInts at h
  split at h
  ·simp at *
  ·rename_i n r heq
   simp at heq
   obtain ⟨rfl, rfl⟩ := heq
   split at h
   ·rename_i ms hms
    simp at h
    subst h
    cases cells with
    | nil => exact hr.elim
    | cons c cells =>
     obtain ⟨h1, h2⟩ := hr
     obtain ⟨e1, e2⟩ := byteInts_cells hms h2
     cases h1 with
     | flat _ => exact ⟨by rw [e1]; rfl, by simp [e2]⟩
   simp at h
  simp at h
theorem byteInts_flat : ∀ {es : List Dat} {ns : List Int}, byteInts es = some ns -> es.flatMap Dat.cells = es /\ ∀ d ∈ es, d.cells.length = 1
 | [], _, _ => ⟨rfl, by simp⟩
 | d :: es, ns, h => by
  unfold byteInts at h
  split at h
  ·simp at *
  ·rename_i n r heq
   simp at heq
   obtain ⟨rfl, rfl⟩ := heq
   split at h
   ·rename_i ms hms
    obtain ⟨e1, e2⟩ := byteInts_flat hms
    refine ⟨by simp [List.flatMap_cons, e1, Dat.cells], ?_⟩
    intro x hx
    rcases List.mem_cons.1 hx with rfl | hx
    ·rfl
    exact e2 x hx
   simp at h
  simp at h
theorem byteInts_length : ∀ {es : List Dat} {ns : List Int}, byteInts es = some ns -> ns.length = es.length
 | [], ns, h => by simp [byteInts] at h; subst h; rfl
 | d :: es, ns, h => by
  unfold byteInts at h
  split at h
  ·simp at *
  ·rename_i n r heq
   simp at heq
   obtain ⟨rfl, rfl⟩ := heq
   split at h
   ·rename_i ms hms
    simp at h
    subst h
    simp [byteInts_length hms]
   simp at h
  simp at h
theorem pushInts_size (ns : List Int) : (pushInts ns).size = ns.length := by
 unfold pushInts
 have : ∀ (ns : List Int) (b : ByteArray), (ns.foldl (fun r n => r.push (UInt8.ofNat n.toNat)) b).size = b.size + ns.length := by
  intro ns
  induction ns with
  | nil => intro b; rfl
  | cons n ns ih => intro b; simp only [List.foldl_cons, ih, List.length_cons]; simp [ByteArray.size_push]; omega
 simpa using this ns ByteArray.empty
theorem run_bytes_string {v : Value} {es : List Dat} {ns : List Int} (h : RepC w R v (.slice es)) (hb : byteInts es = some ns) :
  (Conv.bytesToString v).run P w = .ok (.string (pushInts ns)) w /\ isFlat (.string (pushInts ns)) = true := by
 have hlen : ns.length <= lim := by
  obtain ⟨_, e2⟩ := byteInts_flat hb
  have : ns.length = es.length := byteInts_length hb
  rw [this]
  cases h with
  | nil => simp
  | slice => assumption
 refine ⟨?_, by simp only [isFlat, pushInts_size, decide_eq_true_eq]; unfold lim at hlen; omega⟩
 obtain ⟨e1, e2⟩ := byteInts_flat hb
 cases h with
 | nil a cap =>
  simp [byteInts] at hb
  subst hb
  cases a with
  | none => simp [Conv.bytesToString, pushInts]
  | some a =>
   rw [run_bytesToString w a 0 cap [] (by simpa using run_loadCells_list (P := P) (w := w) a [] (by intro j v hj; simp at hj))]
   rfl
 | slice b off cap s es vs hs hl hcap hb' hcell hrep =>
  by_cases hne : es = []
  ·subst hne
   simp [byteInts] at hb
   subst hb
   rw [List.length_nil, run_bytesToString w _ 0 cap [] (by simpa using run_loadCells_list (P := P) (w := w) _ [] (by intro j v hj; simp at hj))]
   rfl
  have hs1 : s = 1 := by
   cases es with
   | nil => exact absurd rfl hne
   | cons d es => rw [← hl d (by simp), e2 d (by simp)]
  subst hs1
  have hcs : RepCs w R ((List.range es.length).map fun i => vs i 0) es := by
   apply repCs_of_get
   ·simp
   intro i v d hv hd
   rw [List.getElem?_map] at hv
   cases hi : (List.range es.length)[i]? with
   | none => rw [hi] at hv; simp at hv
   | some i' =>
   rw [hi] at hv
   obtain ⟨hi1, hi2⟩ := List.getElem?_eq_some_iff.1 hi
   simp at hi2 hv
   subst hi2
   subst hv
   have hd1 : d.cells[0]? = some d := by
    have hm := e2 d (List.mem_of_getElem? hd)
    have : ∀ (es : List Dat) ns, byteInts es = some ns -> ∀ d ∈ es, d.cells = [d] := by
     intro es
     induction es with
     | nil => intro _ _ d hd; simp at hd
     | cons a es ih =>
      intro ns hb d hd
      unfold byteInts at hb
      split at hb
      ·simp at *
      ·rename_i n r heq
       simp at heq
       obtain ⟨rfl, rfl⟩ := heq
       split at hb
       ·rename_i ms hms
        rcases List.mem_cons.1 hd with rfl | hd
        ·rfl
        exact ih ms hms d hd
       simp at hb
      simp at hb
    rw [this es ns hb d (List.mem_of_getElem? hd)]; rfl
   exact hrep i 0 d d hd hd1
  obtain ⟨e3, e4⟩ := byteInts_cells hb hcs
  have hload := run_loadCells_list (P := P) (w := w) ⟨b, off, none⟩ (ns.map (Value.int .u8)) (by
   intro j v hj
   rw [← e3, List.getElem?_map] at hj
   cases hi : (List.range es.length)[j]? with
   | none => rw [hi] at hj; simp at hj
   | some i' =>
   rw [hi] at hj
   obtain ⟨hi1, hi2⟩ := List.getElem?_eq_some_iff.1 hi
   simp at hi2 hj hi1
   subst hi2
   subst hj
   have := (hcell j 0 hi1 (by omega)).1
   simp only [Nat.mul_one, Nat.add_zero] at this
   have e : (Addr.add ⟨b, off, none⟩ j) = ⟨b, off + j, none⟩ := by
    simp only [Addr.add]
    split
    ·rename_i h0; subst h0; rfl
    rfl
   rw [e]; exact this)
  rw [run_bytesToString w _ es.length cap ns (by simpa [e4] using hload)]
  rfl
theorem sound_convert (hE : E.Ok P) {s d : TypeId} {a : AVal} {x : Value} {out : Out} (h : aConvert E s d [a] = some out) (ha : RepV w R N a x []) :
  out.eff = .keep /\ ∃ cv, (convert s d x).run P w = .ok cv w /\ RepV w R N out.val cv [] := by
 unfold aConvert at h
 split at h
 ·rename_i k n heq
  simp at heq
  subst heq
  obtain ⟨_, rfl, _⟩ := repV_flat_inv ha
  split at h
  ·rename_i k1 k2 h1 h2
   simp [hE.std, Prims.std] at h
   subst h
   exact ⟨rfl, _, by simp [convert, run_und (hE.desc_int h1), run_und (hE.desc_int h2), Conv.intToInt], repV_flat (isFlat_wrap _ _)⟩
  simp at h
 ·rename_i y heq
  simp at heq
  subst heq
  obtain ⟨_, rfl, hy⟩ := repV_flat_inv ha
  split at h
  ·rename_i h1 h2
   simp at h
   subst h
   exact ⟨rfl, _, by simp [convert, run_und (hE.desc_string h1), run_und (hE.desc_string h2)], repV_flat hy⟩
  simp at h
 ·rename_i es heq
  simp at heq
  subst heq
  obtain ⟨_, hr⟩ := repV_slice_inv ha
  split at h
  ·rename_i e h1 h2
   split at h
   ·rename_i ns h3 h4
    simp at h
    subst h
    obtain ⟨k1, k2⟩ := run_bytes_string (P := P) hr h4
    refine ⟨rfl, _, ?_, repV_flat k2⟩
    have hx : ∃ a l c, x = .slice a l c := by cases hr with
     | nil a c => exact ⟨a, 0, c, rfl⟩
     | slice b off cap => exact ⟨_, _, _, rfl⟩
    obtain ⟨a, l, c, rfl⟩ := hx
    rw [run_convert_bytes_string w s d e a l c (hE.desc_slice h1) (hE.desc_int h3) (hE.desc_string h2)]
    exact k1
   simp at h
  simp at h
 simp at h
theorem elemOf_ok (hE : E.Ok P) {t : TypeId} {i : TI} (h : elemOf E t = some i) : ∃ e, P.underlying t = some (.slice e) /\ E.ty e = some i := by
 unfold elemOf at h
 split at h
 ·rename_i e hd; exact ⟨e, hE.desc_slice hd, h⟩
 simp at h
/-- The element of a slice that reads as data. -/
theorem repC_elem {v : Value} {es : List Dat} (h : RepC w R v (.slice es)) {i : Nat} {d : Dat} (hi : es[i]? = some d) :
  ∃ b off cap, v = .slice (some ⟨b, off, none⟩) es.length cap /\ RepAt w R b (off + i * d.cells.length) d.cells := by
 cases h with
 | nil => simp at hi
 | slice b off cap s es vs hs hlen hcap hb hcell hrep =>
  have hd := hlen d (List.mem_of_getElem? hi)
  have hil : i < es.length := by
   rcases Nat.lt_or_ge i es.length with h' | h'
   ·exact h'
   rw [List.getElem?_eq_none h'] at hi; simp at hi
  refine ⟨b, off, cap, rfl, ?_⟩
  have key : ∀ (k : Nat) (cs : List Dat), d.cells.drop k = cs -> RepAt w R b (off + i * d.cells.length + k) cs := by
   intro k cs
   induction cs generalizing k with
   | nil => intro _; trivial
   | cons c cs ih =>
    intro hk
    have hj : d.cells[k]? = some c := by
     have := List.getElem?_drop (xs := d.cells) (i := k) (j := 0)
     rw [hk] at this
     simpa using this.symm
    have hkl : k < s := by
     rw [← hd]
     rcases Nat.lt_or_ge k d.cells.length with h' | h'
     ·exact h'
     rw [List.getElem?_eq_none h'] at hj; simp at hj
    obtain ⟨h1, h2⟩ := hcell i k hil hkl
    rw [hd]
    refine ⟨⟨vs i k, h1, h2, hrep i k d c hi hj⟩, ?_⟩
    have := ih (k + 1) (by rw [← List.drop_drop, hk]; rfl)
    rw [hd] at this
    simpa [Nat.add_assoc] using this
  simpa using key 0 d.cells (by simp)
theorem sound_indexAddr (hE : E.Ok P) {t : TypeId} {a b : AVal} {x y : Value} {out : Out} (h : aIndexAddr E t [a, b] = some out) (ha : RepV w R N a x []) (hb : RepV w R N b y []) :
  out.eff = .keep /\ ∃ cv, (Instr.indexAt t x y).run P w = .ok cv w /\ RepV w R N out.val cv [] := by
 unfold aIndexAddr at h
 split at h
 ·rename_i es k i heq
  simp at heq
  obtain ⟨rfl, rfl⟩ := heq
  obtain ⟨_, rfl, _⟩ := repV_flat_inv hb
  obtain ⟨_, hr⟩ := repV_slice_inv ha
  split at h
  ·rename_i ti hel
   obtain ⟨e, hu, ht⟩ := elemOf_ok hE hel
   split at h
   ·rename_i d hd0
    have hd1 : 0 <= i /\ es[i.toNat]? = some d := by
     rw [hE.std] at hd0
     simp only [Prims.std] at hd0
     split at hd0
     ·exact ⟨by assumption, hd0⟩
     simp at hd0
    obtain ⟨h0, hd⟩ := hd1
    ·split at h
     ·rename_i hsz
      simp at h
      subst h
      obtain ⟨bl, off, cap, rfl, hat⟩ := repC_elem hr hd
      have hlt : i.toNat < es.length := by
       rcases Nat.lt_or_ge i.toNat es.length with h' | h'
       ·exact h'
       rw [List.getElem?_eq_none h'] at hd; simp at hd
      have hlt' : i < (es.length : Int) := by omega
      refine ⟨rfl, .pointer (some ⟨bl, off + i.toNat * ti.size, none⟩), ?_, ?_⟩
      ·simp [Instr.indexAt, asIntOf, run_und hu, h0, hlt', hE.run_size ht, add_plain]
      simp only [RepV]; exact ⟨trivial, bl, _, rfl, by rw [← hsz.1]; exact hat⟩
     simp at h
   simp at h
  simp at h
 ·rename_i n s off len k i heq
  simp at heq
  obtain ⟨rfl, rfl⟩ := heq
  obtain ⟨_, rfl, _⟩ := repV_flat_inv hb
  simp only [RepV] at ha
  obtain ⟨_, bl, cap, hN, rfl, hcap, hs0, hlt, hsz⟩ := ha
  split at h
  ·rename_i ti hel
   obtain ⟨e, hu, ht⟩ := elemOf_ok hE hel
   split at h
   ·rename_i j _
    split at h
    ·rename_i hc
     simp only [Bool.and_eq_true, Nat.blt_eq, Nat.beq_eq] at hc
     obtain ⟨hj, rfl⟩ := hc
     simp at h
     subst h
     refine ⟨rfl, .pointer (some ⟨bl, off + j * ti.size, none⟩), ?_, ?_⟩
     ·have h0 : (0 : Int) <= (j : Int) := Int.natCast_nonneg j
      have hlt' : (j : Int) < (len : Int) := by omega
      simp [Instr.indexAt, asIntOf, run_und hu, h0, hlt', hE.run_size ht, add_plain]
      omega
     simp only [RepV]; exact ⟨trivial, bl, hN, rfl⟩
    simp at h
   simp at h
  simp at h
 ·rename_i n off k i heq
  simp at heq
  obtain ⟨rfl, rfl⟩ := heq
  obtain ⟨_, rfl, _⟩ := repV_flat_inv hb
  simp only [RepV] at ha
  obtain ⟨_, bl, hN, rfl⟩ := ha
  split at h
  ·rename_i len e hd
   have hu := hE.desc_array hd
   split at h
   ·rename_i ti j ht _
    split at h
    ·rename_i hj
     rw [Nat.blt_eq] at hj
     simp at h
     subst h
     refine ⟨rfl, .pointer (some ⟨bl, off + j * ti.size, none⟩), ?_, ?_⟩
     ·have h0 : (0 : Int) <= (j : Int) := Int.natCast_nonneg j
      have hlt' : (j : Int) < (len : Int) := by omega
      simp [Instr.indexAt, asIntOf, run_und hu, h0, hlt', hE.run_size ht, add_plain, Instr.sureAddr]
      intro hx; omega
     simp only [RepV]; exact ⟨trivial, bl, hN, rfl⟩
    simp at h
   simp at h
  simp at h
 simp at h
theorem repVs_get : ∀ {as : List AVal} {vs : List Value} {bs : List Nat} {i : Nat} {a : AVal}, RepVs w R N as vs bs -> as[i]? = some a ->
  ∃ v b', vs[i]? = some v /\ RepV w R N a v b' /\ b'.Sublist bs
 | [], _, _, _, _, _, h => by simp at h
 | x :: as, vs, bs, 0, a, h, hi => by
  obtain ⟨v, vs', b1, b2, rfl, rfl, h1, h2⟩ := repVs_cons_inv h
  simp at hi; subst hi
  exact ⟨v, b1, by simp, h1, List.sublist_append_left ..⟩
 | x :: as, vs, bs, i + 1, a, h, hi => by
  obtain ⟨v, vs', b1, b2, rfl, rfl, h1, h2⟩ := repVs_cons_inv h
  simp at hi
  obtain ⟨u, b', e1, e2, e3⟩ := repVs_get h2 hi
  exact ⟨u, b', by simpa using e1, e2, e3.trans (List.sublist_append_right ..)⟩
theorem sound_extract {i : Nat} {a : AVal} {x : Value} {bs : List Nat} {out : Out} (h : aExtract i [a] = some out) (ha : RepV w R N a x bs) :
  out.eff = .keep /\ ∃ cv b', (Instr.extract x i).run P w = .ok cv w /\ RepV w R N out.val cv b' /\ b'.Sublist bs := by
 unfold aExtract at h
 split at h
 ·rename_i vs heq
  simp at heq
  subst heq
  simp only [RepV] at ha
  obtain ⟨us, rfl, hr⟩ := ha
  split at h
  ·rename_i v hv
   simp at h
   subst h
   obtain ⟨u, b', e1, e2, e3⟩ := repVs_get hr hv
   exact ⟨rfl, u, b', by simp [Instr.extract, e1], e2, e3⟩
  simp at h
 simp at h
theorem repVs_takeL : ∀ {as : List AVal} {vs : List Value} (k : Nat), RepVs w R N as vs [] -> RepVs w R N (takeL k as) (vs.take k) [] /\ RepVs w R N (dropL k as) (vs.drop k) []
 | as, vs, 0, h => by simpa [takeL, dropL] using ⟨repVs_nil, h⟩
 | [], _, k + 1, h => by obtain ⟨rfl, _⟩ := repVs_nil_inv h; simpa [takeL, dropL] using repVs_nil
 | a :: as, vs, k + 1, h => by
  obtain ⟨v, vs', b1, b2, rfl, hb, h1, h2⟩ := repVs_cons_inv h
  obtain ⟨rfl, rfl⟩ := List.append_eq_nil_iff.1 hb.symm
  obtain ⟨e1, e2⟩ := repVs_takeL k h2
  exact ⟨by simpa [takeL] using repVs_cons h1 e1, by simpa [dropL] using e2⟩
theorem sound_makeFunc {f : Fn} {vals : List AVal} {xs ys : List Value} {out : Out} (h : aMakeFunc f xs.length vals = some out) (hr : RepVs w R N vals (xs ++ ys) []) :
  out.eff = .keep /\ ∃ cv, (Instr.makeFunc f xs.toArray ys.toArray).run P w = .ok cv w /\ RepV w R N out.val cv [] := by
 simp [aMakeFunc] at h
 subst h
 obtain ⟨h1, h2⟩ := repVs_takeL xs.length hr
 simp at h1 h2
 refine ⟨rfl, _, rfl, ?_⟩
 simp only [RepV]
 exact ⟨trivial, xs, ys, rfl, h1, h2⟩
theorem sound_max (hE : E.Ok P) {a b : AVal} {x y : Value} {out : Out} (h : aMax E [a, b] = some out) (ha : RepV w R N a x []) (hb : RepV w R N b y []) (ats : Array TypeId) (ty : TypeId) :
  out.eff = .keep /\ ∃ cv, (Builtin.max_ ats ty #[x, y]).run P w = .ok cv w /\ RepV w R N out.val cv [] := by
 unfold aMax at h
 split at h
 ·rename_i k m k' n heq
  simp at heq
  obtain ⟨rfl, rfl⟩ := heq
  obtain ⟨_, rfl, hy⟩ := repV_flat_inv hb
  obtain ⟨_, rfl, hx⟩ := repV_flat_inv ha
  split at h
  ·rename_i hk
   simp [hE.std, Prims.std] at h
   subst h
   subst hk
   exact ⟨rfl, _, by simp [Builtin.max_, Builtin.max2], repV_flat (by split <;> assumption)⟩
  simp at h
 simp at h
theorem sound_min (hE : E.Ok P) {a b : AVal} {x y : Value} {out : Out} (h : aMin E [a, b] = some out) (ha : RepV w R N a x []) (hb : RepV w R N b y []) (ats : Array TypeId) (ty : TypeId) :
  out.eff = .keep /\ ∃ cv, (Builtin.min_ ats ty #[x, y]).run P w = .ok cv w /\ RepV w R N out.val cv [] := by
 unfold aMin at h
 split at h
 ·rename_i k m k' n heq
  simp at heq
  obtain ⟨rfl, rfl⟩ := heq
  obtain ⟨_, rfl, hy⟩ := repV_flat_inv hb
  obtain ⟨_, rfl, hx⟩ := repV_flat_inv ha
  split at h
  ·rename_i hk
   simp [hE.std, Prims.std] at h
   subst h
   subst hk
   exact ⟨rfl, _, by simp [Builtin.min_, Builtin.min2], repV_flat (by split <;> assumption)⟩
  simp at h
 simp at h
end
end Go.Tp

namespace Go.Tp
section
variable {P : Program} {E : TEnv} {w : World} {R : Own} {N : Name -> Option Nat}
theorem takeL_eq : ∀ (k : Nat) (l : List AVal), takeL k l = l.take k
 | 0, _ => by simp [takeL]
 | _ + 1, [] => by simp [takeL]
 | k + 1, _ :: l => by simp [takeL, takeL_eq k l]
theorem dropL_eq : ∀ (k : Nat) (l : List AVal), dropL k l = l.drop k
 | 0, _ => by simp [dropL]
 | _ + 1, [] => by simp [dropL]
 | k + 1, _ :: l => by simp [dropL, dropL_eq k l]
theorem repVs_drop : ∀ {as : List AVal} {vs : List Value} {bs : List Nat} (k : Nat), RepVs w R N as vs bs -> ∃ bs', RepVs w R N (as.drop k) (vs.drop k) bs'
 | as, vs, bs, 0, h => ⟨bs, by simpa using h⟩
 | [], _, _, k + 1, h => by obtain ⟨rfl, _⟩ := repVs_nil_inv h; exact ⟨[], by simpa using repVs_nil⟩
 | a :: as, vs, bs, k + 1, h => by
  obtain ⟨v, vs', b1, b2, rfl, rfl, h1, h2⟩ := repVs_cons_inv h
  simpa using repVs_drop k h2
theorem repVs_take : ∀ {as : List AVal} {vs : List Value} {bs : List Nat} (k : Nat), RepVs w R N as vs bs -> ∃ bs', RepVs w R N (as.take k) (vs.take k) bs'
 | as, vs, bs, 0, h => ⟨[], by simpa using repVs_nil⟩
 | [], _, _, k + 1, h => by obtain ⟨rfl, _⟩ := repVs_nil_inv h; exact ⟨[], by simpa using repVs_nil⟩
 | a :: as, vs, bs, k + 1, h => by
  obtain ⟨v, vs', b1, b2, rfl, rfl, h1, h2⟩ := repVs_cons_inv h
  obtain ⟨b', h3⟩ := repVs_take k h2
  exact ⟨b1 ++ b', by simpa using repVs_cons h1 h3⟩
/-- What a load out of a row of cells gives. -/
theorem loadCells_val {i : TI} {off : Nat} {cs : List AVal} {v : AVal} (h : loadCells i off cs = some v) {vs : List Value} {bs : List Nat} (hr : RepVs w R N cs vs bs) :
  ∃ cv, RepV w R N v cv [] /\ (i.isAgg = true -> cv = .agg ((vs.drop off).take i.size).toArray /\ off + i.size <= vs.length ∨ i.size = 0 /\ cv = .agg #[] /\ i.isAgg = true) /\ (i.isAgg = false -> vs[off]? = some cv) := by
 unfold loadCells at h
 split at h
 ·rename_i ha
  dsimp only at h
  split at h
  ·rename_i hl
   simp at h
   subst h
   rw [takeL_eq, dropL_eq] at hl ⊢
   obtain ⟨b1, h1⟩ := repVs_drop off hr
   obtain ⟨b2, h2⟩ := repVs_take i.size h1
   refine ⟨.agg ((vs.drop off).take i.size).toArray, mkAgg_rep (unOwnL_rep h2), fun _ => ?_, fun hh => by rw [ha] at hh; cases hh⟩
   by_cases h0 : i.size = 0
   ·exact .inr ⟨h0, by simp [h0], ha⟩
   refine .inl ⟨rfl, ?_⟩
   have := hr.length
   simp at hl
   omega
  simp at h
 rename_i ha
 have ha' : i.isAgg = false := by simpa using ha
 split at h
 ·rename_i es hes
  simp at h
  subst h
  obtain ⟨u, b', e1, e2, _⟩ := repVs_get hr hes
  exact ⟨u, repV_dat (d := .slice es) (repV_own_inv e2).rep, (fun hh => by rw [ha'] at hh; cases hh), fun _ => e1⟩
 ·simp at h
 ·simp at h
 ·simp at h
 ·rename_i a hne1 hne2 hne3 hne4 hes
  simp at h
  subst h
  obtain ⟨u, b', e1, e2, _⟩ := repVs_get hr hes
  refine ⟨u, ?_, (fun hh => by rw [ha'] at hh; cases hh), fun _ => e1⟩
  obtain rfl := repV_simple e2 (fun es he => hne1 es (by rw [he])) (fun cs he => hne3 cs (by rw [he])) (fun cs he => hne4 cs (by rw [he]))
  exact e2
 simp at h
theorem get_pad {cs ps : List AVal} {off : Nat} {a : AVal} (h : cs[off]? = some a) : (cs ++ ps)[off]? = some a := by
 rw [List.getElem?_append_left (List.getElem?_eq_some_iff.1 h).1]; exact h
/-- A load does not look behind the cells that are known. -/
theorem loadCells_pad {i : TI} {off : Nat} {cs ps : List AVal} {v : AVal} (h : loadCells i off cs = some v) : loadCells i off (cs ++ ps) = some v := by
 unfold loadCells at h ⊢
 split at h
 ·rename_i ha
  rw [if_pos ha]
  dsimp only at h ⊢
  rw [takeL_eq, dropL_eq] at h ⊢
  split at h
  ·rename_i hl
   have e : ((cs ++ ps).drop off).take i.size = (cs.drop off).take i.size := by
    rw [List.length_take, List.length_drop] at hl
    by_cases h0 : i.size = 0
    ·simp [h0]
    rw [List.drop_append_of_le_length (by omega), List.take_append_of_le_length (by rw [List.length_drop]; omega)]
   rw [e, if_pos hl]
   exact h
  simp at h
 rename_i ha
 rw [if_neg ha]
 have hne : ∃ a, cs[off]? = some a := by
  cases hc : cs[off]? with
  | none => rw [hc] at h; simp at h
  | some a => exact ⟨a, rfl⟩
 obtain ⟨a, hc⟩ := hne
 rw [get_pad hc]
 rw [hc] at h
 exact h
theorem run_part (hE : E.Ok P) {t : TypeId} {i : TI} (ht : E.ty t = some i) (vs : List Value) (off : Nat) (cv : Value)
  (h1 : i.isAgg = true -> cv = .agg ((vs.drop off).take i.size).toArray) (h2 : i.isAgg = false -> vs[off]? = some cv) :
  (part t vs.toArray off).run P w = .ok cv w := by
 unfold part
 simp only [Sem.run_bind, hE.run_isAgg ht, Result.andThen_ok]
 cases ha : i.isAgg with
 | true =>
  simp [hE.run_size ht, h1 ha]
 | false =>
  have := h2 ha
  simp [this]
/-- A part of an aggregate. -/
theorem part_dats (hE : E.Ok P) {t : TypeId} {i : TI} (h4 : E.ty t = some i) {cs : List Dat} {vs : List Value} {off : Nat} (hr : RepCs w R vs cs) {v : AVal} (hl : loadDats i (cs.drop off) = some v) :
  ∃ cv, (part t vs.toArray off).run P w = .ok cv w /\ RepV w R N v cv [] := by
 have hd := repCs_drop off hr
 have hlen := repCs_length hd
 unfold loadDats at hl
 split at hl
 ·rename_i hag
  dsimp only at hl
  split at hl
  ·simp at hl
   subst hl
   exact ⟨.agg ((vs.drop off).take i.size).toArray, run_part (w := w) hE h4 vs off (.agg ((vs.drop off).take i.size).toArray) (fun _ => rfl) (fun hh => by rw [hag] at hh; cases hh), repV_dat ⟨_, rfl, repCs_take _ hd⟩⟩
  simp at hl
 rename_i hag
 have hag' : i.isAgg = false := by simpa using hag
 generalize hcs : cs.drop off = ds at hl hd hlen
 cases hvs : vs.drop off with
 | nil =>
  rw [hvs] at hlen hd
  cases ds with
  | nil => simp at hl
  | cons c ds => simp at hlen
 | cons u us =>
  rw [hvs] at hlen hd
  cases ds with
  | nil => simp at hlen
  | cons c ds =>
   have hget : vs[off]? = some u := by
    have := List.getElem?_drop (xs := vs) (i := off) (j := 0)
    rw [hvs] at this
    simpa using this.symm
   refine ⟨u, run_part (w := w) hE h4 vs off u (fun hh => by rw [hag'] at hh; cases hh) (fun _ => hget), ?_⟩
   cases c with
   | flat x => simp at hl; subst hl; exact repV_dat (d := .flat x) hd.1
   | slice es => simp at hl; subst hl; exact repV_dat (d := .slice es) hd.1
   | agg ds => simp at hl
theorem sound_field (hE : E.Ok P) {st : TypeId} {f : Nat} {a : AVal} {x : Value} {out : Out} (h : aField E st f [a] = some out) (ha : RepV w R N a x []) :
  out.eff = .keep /\ ∃ cv, (Instr.field st x f).run P w = .ok cv w /\ RepV w R N out.val cv [] := by
 cases a with
 | dat d =>
  cases d with
  | agg cs =>
   simp only [aField] at h
   split at h
   ·rename_i off i hf
    obtain ⟨fields, fld, h1, h2, h3, h4⟩ := fieldOf_ok hE hf
    obtain ⟨_, vs, rfl, hr⟩ := repV_dat_inv ha
    cases hl : loadDats i (cs.drop off) with
    | none => simp [hl, ofA] at h
    | some v =>
     simp [hl, ofA] at h
     subst h
     obtain ⟨cv, h5, h6⟩ := part_dats (N := N) hE h4 hr hl
     exact ⟨rfl, cv, by simp [Instr.field, run_und h1, h2, asAgg, h3, h5], h6⟩
   simp at h
  | _ => simp [aField] at h
 | agg cs =>
  simp only [aField] at h
  split at h
  ·rename_i off i hf
   obtain ⟨fields, fld, h1, h2, h3, h4⟩ := fieldOf_ok hE hf
   obtain ⟨vs, rfl, hr⟩ := repV_agg_inv ha
   cases hl : loadCells i off cs with
   | none => simp [hl, ofA] at h
   | some v =>
    simp [hl, ofA] at h
    subst h
    obtain ⟨cv, e1, e2, e3⟩ := loadCells_val hl hr
    refine ⟨rfl, cv, ?_, e1⟩
    have := run_part (w := w) hE h4 vs off cv (fun hh => by
     rcases e2 hh with ⟨e, _⟩ | ⟨e0, e, _⟩
     ·exact e
     simp [e0, e]) e3
    simp [Instr.field, run_und h1, h2, asAgg, h3, this]
  simp at h
 | _ => simp [aField] at h
theorem sound_index (hE : E.Ok P) {t : TypeId} {a b : AVal} {x y : Value} {out : Out} (h : aIndex E t [a, b] = some out) (ha : RepV w R N a x []) (hb : RepV w R N b y []) :
  out.eff = .keep /\ ∃ cv, (Instr.index t x y).run P w = .ok cv w /\ RepV w R N out.val cv [] := by
 unfold aIndex at h
 split at h
 ·rename_i s k i heq
  simp at heq
  obtain ⟨rfl, rfl⟩ := heq
  obtain ⟨_, rfl, _⟩ := repV_flat_inv hb
  obtain ⟨_, rfl, _⟩ := repV_flat_inv ha
  split at h
  ·rename_i hd
   split at h
   ·rename_i by_ hby0
    have hby1 : 0 <= i /\ s[i.toNat]? = some by_ := by
     rw [hE.std] at hby0
     simp only [Prims.std] at hby0
     split at hby0
     ·exact ⟨by assumption, hby0⟩
     simp at hby0
    obtain ⟨h0, hby⟩ := hby1
    ·simp at h
     subst h
     exact ⟨rfl, _, by simp [Instr.index, asIntOf, run_und (hE.desc_string hd), h0, hby], repV_flat (isFlat_int.2 (by have := by_.toNat_lt; simp [IntKind.min, IntKind.max, IntKind.bits, IntKind.signed]; omega))⟩
   simp at h
  simp at h
 ·rename_i cs k i heq
  simp at heq
  obtain ⟨rfl, rfl⟩ := heq
  obtain ⟨_, rfl, _⟩ := repV_flat_inv hb
  obtain ⟨_, vs, rfl, hr⟩ := repV_dat_inv ha
  cases i with
  | ofNat j =>
   simp only [aIndexArr] at h
   split at h
   ·rename_i len e hd
    have hu := hE.desc_array hd
    split at h
    ·rename_i ti ht
     split at h
     ·rename_i hj
      rw [Nat.blt_eq] at hj
      cases hl : loadDats ti (cs.drop (j * ti.size)) with
      | none => simp [hl, ofA] at h
      | some v =>
       simp [hl, ofA] at h
       subst h
       obtain ⟨cv, h5, h6⟩ := part_dats (N := N) hE ht hr hl
       have h0 : (0 : Int) <= (j : Int) := Int.natCast_nonneg j
       have hlt' : (j : Int) < (len : Int) := by omega
       exact ⟨rfl, cv, by simp [Instr.index, asIntOf, run_und hu, h0, hE.run_size ht, h5]; intro hx; omega, h6⟩
     simp at h
    simp at h
   simp at h
  | negSucc j => simp [aIndexArr] at h
 simp at h
/-- A load from an object of cells. -/
theorem run_load_obj (hE : E.Ok P) {t : TypeId} {i : TI} (ht : E.ty t = some i) {b off : Nat} {vs : Array Value} {elem : TypeId} {fz : Nat × Nat} (hb : w.heap[b]? = some (.cells vs elem fz))
  {cs : List AVal} {bs : List Nat} (hr : RepVs w R N cs vs.toList bs) {v : AVal} (h : loadCells i off cs = some v) :
  ∃ cv, (Instr.loadAt t (.pointer (some ⟨b, off, none⟩))).run P w = .ok cv w /\ RepV w R N v cv [] := by
 obtain ⟨cv, e1, e2, e3⟩ := loadCells_val h hr
 refine ⟨cv, ?_, e1⟩
 have hcell : ∀ (j : Nat) (u : Value), (vs.toList.drop off)[j]? = some u -> w.cell? ⟨b, off + j, none⟩ = some u := by
  intro j u hj
  rw [List.getElem?_drop] at hj
  rw [cell_of_row w b (off + j) vs elem fz hb]
  simpa using hj
 have : (Instr.loadAt t (.pointer (some ⟨b, off, none⟩))).run P w = (loadVar t ⟨b, off, none⟩).run P w := by
  simp [Instr.loadAt, Instr.sureAddr]
 rw [this]
 cases ha : i.isAgg with
 | true =>
  rcases e2 ha with ⟨e, hle⟩ | ⟨e0, e, _⟩
  ·have := run_loadVar (w := w) hE ht hcell (by simp at hle ⊢; omega) (by simp [ha])
   rw [this, ha, e]
   rfl
  have := run_loadVar (w := w) hE ht hcell (by simp [e0]) (by simp [ha])
  rw [this, ha, e, e0]
  simp
 | false =>
  have hg := e3 ha
  have h0 := hcell 0 cv (by rw [List.getElem?_drop]; simpa using hg)
  simp at h0
  simp [loadVar, hE.run_isAgg ht, ha, h0]
end
end Go.Tp

namespace Go.Tp
section
variable {P : Program} {E : TEnv} {w : World} {R : Own} {N : Name -> Option Nat}
/-! #### Slice expressions -/
theorem bound_run {v : Option AVal} {x : Option Value} {d n y : Nat} (h : bound1 v d = some n) (hr : ∀ a, v = some a -> ∃ u, x = some u /\ RepV w R N a u []) (hn : v = none -> x = none) (hy : n <= y) (code : BoundsCode) :
  (match x with | some u => (Instr.sliceBound u y code) | none => (pure d : Sem Nat)).run P w = .ok n w := by
 cases v with
 | none => rw [hn rfl]; simp [bound1] at h; subst h; rfl
 | some a =>
  obtain ⟨u, rfl, hu⟩ := hr a rfl
  unfold bound1 at h
  split at h
  ·simp at *
  ·rename_i k i heq
   simp at heq
   subst heq
   obtain ⟨_, rfl, _⟩ := repV_flat_inv hu
   split at h
   ·rename_i h0
    simp at h
    subst h
    have : i <= (y : Int) := by omega
    simp [Instr.sliceBound, asIntOf, h0, this]
   simp at h
  simp at h
theorem run_bounds {isSlice : Bool} {len cap h l : Nat} {lo hi : Option AVal} {lov hiv : Option Value} (e1 : bound1 hi len = some h) (e2 : bound1 lo 0 = some l)
  (hhi : ∀ a, hi = some a -> ∃ u, hiv = some u /\ RepV w R N a u []) (hhn : hi = none -> hiv = none)
  (hlo : ∀ a, lo = some a -> ∃ u, lov = some u /\ RepV w R N a u []) (hln : lo = none -> lov = none) (h1 : l <= h) (h2 : h <= cap) :
  (Instr.sliceBounds isSlice len cap lov hiv none).run P w = .ok (l, h, cap) w := by
 have b1 := fun code => bound_run (P := P) (y := cap) e1 hhi hhn h2 code
 have b2 := fun code => bound_run (P := P) (y := h) e2 hlo hln h1 code
 cases hiv <;> cases lov <;> simp_all [Instr.sliceBounds]
theorem repC_sub {v : Value} {es : List Dat} {s l h : Nat} (hr : RepC w R v (.slice es)) (hs : ∀ d ∈ es, d.cells.length = s) (h1 : l <= h) (h2 : h <= es.length) :
  ∃ a cap, v = .slice a es.length cap /\ es.length <= cap /\ RepC w R (.slice (if cap = l then a else a.map (·.add (l * s))) (h - l) (cap - l)) (.slice ((es.take h).drop l)) := by
 have hlen : ((es.take h).drop l).length = h - l := by simp; omega
 cases hr with
 | nil a cap =>
  refine ⟨a, cap, rfl, by simp, ?_⟩
  have : h = 0 := by simpa using h2
  subst this
  have : l = 0 := by omega
  subst this
  exact .nil _ _
 | slice b off cap s' es vs hs0 hlen' hcap hb hcell hrep =>
  refine ⟨some ⟨b, off, none⟩, cap, rfl, hcap, ?_⟩
  by_cases hlh : l = h
  ·subst hlh
   have : (es.take l).drop l = [] := by simp
   rw [this, Nat.sub_self]
   exact .nil _ _
  have hne : ¬ cap = l := by omega
  rw [if_neg hne]
  have hss : s' = s := by
   cases es with
   | nil => simp at h2; omega
   | cons e es => rw [← hlen' e (by simp), hs e (by simp)]
  subst hss
  simp only [Option.map_some, add_plain]
  rw [← hlen]
  refine .slice b (off + l * s') (cap - l) s' _ (fun i j => vs (l + i) j) hs0 (fun e he => hlen' e (List.mem_of_mem_take (List.mem_of_mem_drop he))) (by omega) (by omega) (fun i j hi hj => ?_) (fun i j e c he hc => ?_)
  ·have := hcell (l + i) j (by omega) hj
   rw [show off + l * s' + i * s' + j = off + (l + i) * s' + j by rw [Nat.add_mul]; omega]
   exact this
  refine hrep (l + i) j e c ?_ hc
  rw [List.getElem?_drop, List.getElem?_take] at he
  split at he
  ·exact he
  simp at he
theorem intArg_bound {v : Option AVal} {x : Option Int} {d : Nat} (h : intArg v = some x) : boundOf x d = bound1 v d := by
 unfold intArg at h
 split at h
 ·simp at h; subst h; rfl
 ·simp at h; subst h; rfl
 simp at h
theorem sound_slice (hE : E.Ok P) {t : TypeId} {lo hi mx : Option Operand} {a : AVal} {rest : List AVal} {x : Value} {ρ : Operand -> Value} {out : Out}
  (h : aSlice E t lo hi mx (a :: rest) = some out) (ha : RepV w R N a x []) (hrest : RepVs w R N rest ((lo.toList ++ hi.toList).map ρ) []) :
  out.eff = .keep /\ mx = none /\ ∃ cv, (Instr.sliceAt t x (lo.map ρ) (hi.map ρ) none).run P w = .ok cv w /\ RepV w R N out.val cv [] := by
 have key : ∀ (L H : Option AVal), optArgs lo hi rest = (L, H) -> (∀ v, H = some v -> ∃ u, hi.map ρ = some u /\ RepV w R N v u []) /\ (H = none -> hi.map ρ = none) ∧
   (∀ v, L = some v -> ∃ u, lo.map ρ = some u /\ RepV w R N v u []) /\ (L = none -> lo.map ρ = none) := by
  intro L H hopt
  cases lo with
  | none =>
   cases hi with
   | none =>
    simp [optArgs] at hopt
    obtain ⟨rfl, rfl⟩ := hopt
    simp
   | some y =>
    simp at hrest
    cases rest with
    | nil => simp [RepVs] at hrest
    | cons r rest =>
     obtain ⟨u, us, b1, b2, e1, e2, h1, h2⟩ := repVs_cons_inv hrest
     simp at e1
     obtain ⟨rfl, rfl⟩ := e1
     obtain ⟨rfl, rfl⟩ := List.append_eq_nil_iff.1 e2.symm
     cases rest with
     | cons _ _ => simp [RepVs] at h2
     | nil =>
      simp [optArgs] at hopt
      obtain ⟨rfl, rfl⟩ := hopt
      simpa using h1
  | some z =>
   cases hi with
   | none =>
    simp at hrest
    cases rest with
    | nil => simp [RepVs] at hrest
    | cons r rest =>
     obtain ⟨u, us, b1, b2, e1, e2, h1, h2⟩ := repVs_cons_inv hrest
     simp at e1
     obtain ⟨rfl, rfl⟩ := e1
     obtain ⟨rfl, rfl⟩ := List.append_eq_nil_iff.1 e2.symm
     cases rest with
     | cons _ _ => simp [RepVs] at h2
     | nil =>
      simp [optArgs] at hopt
      obtain ⟨rfl, rfl⟩ := hopt
      simpa using h1
   | some y =>
    simp at hrest
    cases rest with
    | nil => simp [RepVs] at hrest
    | cons r rest =>
     obtain ⟨u, us, b1, b2, e1, e2, h1, h2⟩ := repVs_cons_inv hrest
     simp at e1
     obtain ⟨rfl, rfl⟩ := e1
     obtain ⟨rfl, rfl⟩ := List.append_eq_nil_iff.1 e2.symm
     cases rest with
     | nil => simp [RepVs] at h2
     | cons r2 rest =>
      obtain ⟨u2, us2, c1, c2, f1, f2, g1, g2⟩ := repVs_cons_inv h2
      simp at f1
      obtain ⟨rfl, rfl⟩ := f1
      obtain ⟨rfl, rfl⟩ := List.append_eq_nil_iff.1 f2.symm
      cases rest with
      | cons _ _ => simp [RepVs] at g2
      | nil =>
       simp [optArgs] at hopt
       obtain ⟨rfl, rfl⟩ := hopt
       simp
       exact ⟨g1, h1⟩
 obtain ⟨k1, k2, k3, k4⟩ := key (optArgs lo hi rest).1 (optArgs lo hi rest).2 rfl
 unfold aSlice at h
 split at h
 ·rename_i s rest' heq
  obtain ⟨rfl, rfl⟩ := List.cons.inj heq
  obtain ⟨_, rfl, hfl⟩ := repV_flat_inv ha
  split at h
  ·rename_i hd
   have hu := hE.desc_string hd
   cases hs : sliceOf E.pr 0 (optArgs lo hi rest).1 (optArgs lo hi rest).2 (.dat (.flat (.string s))) with
   | none => simp [hs, ofA] at h
   | some v =>
    simp [hs, ofA] at h
    subst h
    have hs2 : ∃ hh ll, bound1 (optArgs lo hi rest).2 s.size = some hh /\ bound1 (optArgs lo hi rest).1 0 = some ll /\ (ll <= hh /\ hh <= s.size) /\ v = aval (.string (s.extract ll hh)) := by
     simp only [sliceOf, hE.std, Prims.std] at hs
     split at hs
     ·rename_i l h hl hh
      rw [← intArg_bound hl, ← intArg_bound hh]
      split at hs
      ·rename_i r hr
       simp at hs
       split at hr
       ·split at hr
        ·rename_i h1 l1 e1 e2 hc
         simp at hr
         exact ⟨_, _, e1, e2, hc, by rw [← hs, ← hr]⟩
        simp at hr
       simp at hr
      simp at hs
     simp at hs
    obtain ⟨hh, ll, e1, e2, hc, rfl⟩ := hs2
    ·· 
      have hb := run_bounds (P := P) (isSlice := false) e1 e2 k1 k2 k3 k4 hc.1 hc.2
      refine ⟨rfl, rfl, .string (s.extract ll hh), ?_, repV_flat (by simp [isFlat] at hfl ⊢; omega)⟩
      simp [Instr.sliceAt, Instr.slice, run_und hu, hb]
  simp at h
 ·rename_i es rest' heq
  obtain ⟨rfl, rfl⟩ := List.cons.inj heq
  obtain ⟨_, hr⟩ := repV_slice_inv ha
  split at h
  ·rename_i i hel
   obtain ⟨e, hu, hty⟩ := elemOf_ok hE hel
   ·cases hs : sliceOf E.pr i.size (optArgs lo hi rest).1 (optArgs lo hi rest).2 (.dat (.slice es)) with
    | none => simp [hs, ofA] at h
    | some v =>
     simp [hs, ofA] at h
     subst h
     have hs2 : ∃ hh ll, bound1 (optArgs lo hi rest).2 es.length = some hh /\ bound1 (optArgs lo hi rest).1 0 = some ll /\ (ll <= hh /\ hh <= es.length) /\ ((∀ d ∈ es, d.cells.length = i.size) /\ 0 < i.size) /\ v = .dat (.slice ((es.take hh).drop ll)) := by
      simp only [sliceOf, hE.std, Prims.std] at hs
      split at hs
      ·rename_i l h hl hh
       rw [← intArg_bound hl, ← intArg_bound hh]
       split at hs
       ·rename_i r hr
        simp at hs
        split at hr
        ·rename_i hsz
         split at hr
         ·split at hr
          ·rename_i h1 l1 e1 e2 hc
           simp at hr
           exact ⟨_, _, e1, e2, hc, hsz, by rw [← hs, ← hr]⟩
          simp at hr
         simp at hr
        simp at hr
       simp at hs
      simp at hs
     obtain ⟨hh, ll, e1, e2, hc, hsz, rfl⟩ := hs2
     ·· 
       obtain ⟨ad, cap, rfl, hcap, hrep⟩ := repC_sub hr hsz.1 hc.1 hc.2
       have hb := run_bounds (P := P) (isSlice := true) (cap := cap) e1 e2 k1 k2 k3 k4 hc.1 (by omega)
       refine ⟨rfl, rfl, _, ?_, repV_dat (d := .slice _) hrep⟩
       simp [Instr.sliceAt, Instr.slice, run_und hu, hb, hE.run_size hty]
  simp at h
 ·rename_i n s off len rest' heq
  obtain ⟨rfl, rfl⟩ := List.cons.inj heq
  simp only [RepV] at ha
  obtain ⟨_, bl, cap, hN, rfl, hcap, hs0, hlt, hsz⟩ := ha
  split at h
  ·rename_i i hel
   obtain ⟨e, hu, hty⟩ := elemOf_ok hE hel
   split at h
   ·rename_i l0 h0 hl0 hh0
    split at h
    ·rename_i h1 l1 e2 e1
     rw [intArg_bound hl0] at e1
     rw [intArg_bound hh0] at e2
     split at h
     ·rename_i hc
      simp only [Bool.and_eq_true, Nat.ble_eq, Nat.beq_eq] at hc
      obtain ⟨⟨hc1, hc2⟩, rfl⟩ := hc
      have hb := run_bounds (P := P) (w := w) (isSlice := true) (cap := cap) e2 e1 k1 k2 k3 k4 hc1 (by omega)
      split at h
      ·simp at h
       subst h
       refine ⟨rfl, rfl, .slice (some ⟨bl, off, none⟩) h1 cap, ?_, ?_⟩
       ·simp [Instr.sliceAt, Instr.slice, run_und hu, hb, hE.run_size hty, Addr.add]
       simp only [RepV]
       exact ⟨trivial, bl, cap, hN, rfl, by omega, hs0, hlt, hsz⟩
      rename_i l2
      split at h
      ·rename_i hlt2
       rw [Nat.blt_eq] at hlt2
       simp at h
       subst h
       have hne : ¬ cap = l2 + 1 := by omega
       refine ⟨rfl, rfl, .slice (some ⟨bl, off + (l2 + 1) * i.size, none⟩) (h1 - (l2 + 1)) (cap - (l2 + 1)), ?_, ?_⟩
       ·simp [Instr.sliceAt, Instr.slice, run_und hu, hb, hE.run_size hty, hne, add_plain]
       simp only [RepV]
       refine ⟨trivial, bl, cap - (l2 + 1), hN, rfl, by omega, ⟨hs0.1, Nat.le_trans (Nat.sub_le _ _) hs0.2⟩, hlt, ?_⟩
       rw [← hsz, Nat.sub_mul, Nat.add_assoc]
       congr 1
       have : (l2 + 1) * i.size <= cap * i.size := Nat.mul_le_mul_right _ (by omega)
       omega
      rename_i hlt2
      have hlt2 : ¬ l2 + 1 < h1 := fun h' => hlt2 (by rw [Nat.blt_eq]; exact h')
      simp at h
      subst h
      have he : h1 = l2 + 1 := by omega
      subst he
      refine ⟨rfl, rfl, .slice (if cap = l2 + 1 then some ⟨bl, off, none⟩ else (some (⟨bl, off, none⟩ : Addr)).map (·.add ((l2 + 1) * i.size))) 0 (cap - (l2 + 1)), ?_, repV_dat (d := .slice _) (.nil _ _)⟩
      simp [Instr.sliceAt, Instr.slice, run_und hu, hb, hE.run_size hty]
     simp at h
    simp at h
   simp at h
  simp at h
 simp at h
/-! #### Struct literals -/
theorem putL_get {α : Type} : ∀ (off : Nat) (ns l : List α) (k : Nat), (putL off ns l)[k]? = if off <= k /\ k < off + ns.length /\ k < l.length then ns[k - off]? else l[k]?
 | off, [], l, k => by
  have : ¬ (off <= k /\ k < off + ([] : List α).length /\ k < l.length) := by simp; omega
  rw [if_neg this]; cases off <;> cases l <;> rfl
 | off, n :: ns, [], k => by cases off <;> simp [putL]
 | 0, n :: ns, a :: l, 0 => by simp [putL]
 | 0, n :: ns, a :: l, k + 1 => by
  have := putL_get 0 ns l k
  simp only [putL, List.getElem?_cons_succ, this]
  simp
 | off + 1, n :: ns, a :: l, 0 => by simp [putL]
 | off + 1, n :: ns, a :: l, k + 1 => by
  have := putL_get off (n :: ns) l k
  simp only [putL, List.getElem?_cons_succ, this]
  have e : k + 1 - (off + 1) = k - off := by omega
  rw [e]
  by_cases h : off <= k /\ k < off + (n :: ns).length /\ k < l.length
  ·rw [if_pos h, if_pos (by simp at h ⊢; omega)]
  rw [if_neg h, if_neg (by simp at h ⊢; omega)]
theorem fold_putL (off : Nat) (v : Array Value) (cells : Array Value) :
  ((v.zipIdx.foldl (fun cs (x : Value × Nat) => cs.setIfInBounds (off + x.2) x.1) cells)) = (putL off v.toList cells.toList).toArray := by
 rw [← Array.foldl_toList, Array.toList_zipIdx]
 obtain ⟨h1, h2⟩ := Great.foldl_set off v.toList 0 cells
 apply Array.ext_getElem?
 intro k
 rw [h2 k]
 simp only [List.getElem?_toArray, putL_get, Nat.add_zero, Array.length_toList, Array.getElem?_toList]
theorem repVs_put0 : ∀ {ns as : List AVal} {us vs : List Value} {bs : List Nat}, RepVs w R N as vs bs -> ns.length <= as.length -> us.length = ns.length ->
  ∃ mid post, bs = mid ++ post /\ ∀ (b : List Nat) (w' : World) (R' : Own), Keep w R w' R' post -> RepVs w' R' N ns us b -> RepVs w' R' N (putL 0 ns as) (putL 0 us vs) (b ++ post)
 | [], as, us, vs, bs, h, _, hu => by
  obtain rfl : us = [] := List.eq_nil_of_length_eq_zero (by simpa using hu)
  refine ⟨[], bs, by simp, fun b w' R' k hr => ?_⟩
  obtain ⟨_, rfl⟩ := repVs_nil_inv hr
  have e1 : putL 0 ([] : List AVal) as = as := by cases as <;> rfl
  have e2 : putL 0 ([] : List Value) vs = vs := by cases vs <;> rfl
  rw [e1, e2]
  simpa using h.keep k
 | n :: ns, [], us, vs, bs, h, hl, hu => by simp at hl
 | n :: ns, a :: as, us, vs, bs, h, hl, hu => by
  obtain ⟨v, vs', c1, c2, rfl, rfl, h1, h2⟩ := repVs_cons_inv h
  cases us with
  | nil => simp at hu
  | cons u us =>
   obtain ⟨mid, post, e, hk⟩ := repVs_put0 (ns := ns) (us := us) h2 (by simpa using hl) (by simpa using hu)
   refine ⟨c1 ++ mid, post, by simp [e], fun b w' R' k hr => ?_⟩
   obtain ⟨u3, us3, f1, f2, e1, rfl, k1, k2⟩ := repVs_cons_inv hr
   obtain ⟨rfl, rfl⟩ := List.cons.inj e1
   simpa [putL] using repVs_cons k1 (hk f2 w' R' k k2)
/-- New cells in the place of some: what is owned. -/
theorem repVs_putL : ∀ (off : Nat) {ns as : List AVal} {us vs : List Value} {bs : List Nat}, RepVs w R N as vs bs -> off + ns.length <= as.length -> us.length = ns.length ->
  ∃ pre mid post, bs = pre ++ mid ++ post /\ ∀ (b2 : List Nat) (w' : World) (R' : Own), Keep w R w' R' (pre ++ post) -> RepVs w' R' N ns us b2 -> RepVs w' R' N (putL off ns as) (putL off us vs) (pre ++ b2 ++ post)
 | 0, ns, as, us, vs, bs, h, hl, hu => by
  obtain ⟨mid, post, e, hk⟩ := repVs_put0 h (by omega) hu
  exact ⟨[], mid, post, by simpa using e, fun b2 w' R' k hr => by simpa using hk b2 w' R' (by simpa using k) hr⟩
 | off + 1, [], as, us, vs, bs, h, hl, hu => by
  obtain rfl : us = [] := List.eq_nil_of_length_eq_zero (by simpa using hu)
  refine ⟨bs, [], [], by simp, fun b2 w' R' k hr => ?_⟩
  obtain ⟨_, rfl⟩ := repVs_nil_inv hr
  have e1 : putL (off + 1) ([] : List AVal) as = as := by cases as <;> rfl
  have e2 : putL (off + 1) ([] : List Value) vs = vs := by cases vs <;> rfl
  rw [e1, e2]
  simpa using h.keep (k.sub (by simp))
 | off + 1, n :: ns, [], us, vs, bs, h, hl, hu => by simp at hl
 | off + 1, n :: ns, a :: as, us, vs, bs, h, hl, hu => by
  obtain ⟨v, vs', c1, c2, rfl, rfl, h1, h2⟩ := repVs_cons_inv h
  cases us with
  | nil => simp at hu
  | cons u us =>
   obtain ⟨pre, mid, post, e, hk⟩ := repVs_putL off (ns := n :: ns) (us := u :: us) h2 (by simp at hl ⊢; omega) hu
   refine ⟨c1 ++ pre, mid, post, by simp [e], fun b2 w' R' k hr => ?_⟩
   have := hk b2 w' R' (k.sub (by intro b hb; simp at hb ⊢; rcases hb with h | h <;> simp [h])) hr
   simpa [putL] using repVs_cons (h1.keep (k.sub (by intro b hb; simp [hb]))) this
theorem keep_refl (bs : List Nat) : Keep w R w R bs := ⟨Step.refl w R, fun _ _ _ => ⟨rfl, fun _ h => h⟩⟩
theorem repVs_putL0 {off : Nat} {ns as : List AVal} {us vs : List Value} (h : RepVs w R N as vs []) (hn : RepVs w R N ns us []) (hl : off + ns.length <= as.length) :
  RepVs w R N (putL off ns as) (putL off us vs) [] := by
 obtain ⟨pre, mid, post, e, hk⟩ := repVs_putL off h hl hn.length
 have hpm := List.append_eq_nil_iff.1 e.symm
 obtain ⟨hpm, rfl⟩ := hpm
 obtain ⟨rfl, rfl⟩ := List.append_eq_nil_iff.1 hpm
 simpa using hk [] w R (keep_refl _) hn
theorem fillL_run {place : Nat -> Option (Nat × Nat)} {cplace : Nat -> Option (Nat × Nat)} (hp : ∀ k x, place k = some x -> cplace k = some x) :
  ∀ (ps : List (Nat × AVal)) (cps : List (Nat × Value)) (cells : List AVal) (vs : Array Value) (r : List AVal), ps.map (·.1) = cps.map (·.1) ->
   RepVs w R N (ps.map (·.2)) (cps.map (·.2)) [] -> RepVs w R N cells vs.toList [] -> fillL place ps cells = some r ->
   ∃ us : Array Value, Instr.fill cplace vs cps = some us /\ RepVs w R N r us.toList []
 | [], cps, cells, vs, r, hm, _, hc, h => by
  have : cps = [] := by simpa using hm.symm
  subst this
  simp [fillL] at h
  subst h
  exact ⟨vs, rfl, hc⟩
 |(i, a) :: ps, cps, cells, vs, r, hm, hr, hc, h => by
  cases cps with
  | nil => simp at hm
  | cons q cps =>
   obtain ⟨j, v⟩ := q
   simp at hm
   obtain ⟨rfl, hm⟩ := hm
   simp only [List.map_cons] at hr
   obtain ⟨u, us, b1, b2, e1, e2, h1, h2⟩ := repVs_cons_inv hr
   obtain ⟨rfl, rfl⟩ := List.cons.inj e1
   obtain ⟨rfl, rfl⟩ := List.append_eq_nil_iff.1 e2.symm
   simp only [fillL] at h
   split at h
   ·simp at h
   rename_i off size hpl
   split at h
   ·rename_i hcond
    have hcells := acells_rep (unOwn_rep h1) hcond.2.2
    have hlen := hcells.length
    have hvl := hc.length
    have hput := repVs_putL0 (off := off) hc hcells (by omega)
    have e : (putL off v.cells.toList vs.toList).toArray = v.cells.zipIdx.foldl (fun cs (x : Value × Nat) => cs.setIfInBounds (off + x.2) x.1) vs := (fold_putL off v.cells vs).symm
    obtain ⟨us', f1, f2⟩ := fillL_run hp ps cps _ (putL off v.cells.toList vs.toList).toArray r hm h2 (by simpa using hput) h
    refine ⟨us', ?_, f2⟩
    unfold Instr.fill
    simp only [hp _ _ hpl]
    rw [if_neg (by simp at hlen hvl ⊢; omega)]
    rw [← e]
    exact f1
   simp at h
end
end Go.Tp

namespace Go.Tp
section
variable {P : Program} {E : TEnv} {w : World} {R : Own} {N : Name -> Option Nat}
theorem mapM_get {α β : Type} (f : α -> Option β) : ∀ {l : List α} {r : List β}, l.mapM f = some r -> ∀ k : Nat, r[k]? = (l[k]?).bind f
 | [], r, h, k => by simp at h; subst h; simp
 | a :: l, r, h, k => by
  simp only [List.mapM_cons, Option.bind_eq_bind, Option.pure_def] at h
  cases ha : f a with
  | none => simp [ha] at h
  | some b =>
   cases hl : l.mapM f with
   | none => simp [ha, hl] at h
   | some rs =>
    simp [ha, hl] at h
    subst h
    cases k with
    | zero => simp [ha]
    | succ k => simpa using mapM_get f hl k
theorem sound_build (hE : E.Ok P) {t : TypeId} {ps : Array (Nat × Operand)} {ρ : Operand -> Value} {vals : List AVal} {out : Out} (h : aBuild E t ps.toList vals = some out)
  (hr : RepVs w R N vals ((ps.toList.map (·.2)).map ρ) []) :
  out.eff = .keep /\ ∃ cv, (Instr.build t (ps.map fun (i, x) => (i, ρ x))).run P w = .ok cv w /\ RepV w R N out.val cv [] := by
 unfold aBuild at h
 split at h
 ·rename_i i hi
  split at h
  ·rename_i fs hd
   split at h
   ·rename_i hok
    split at h
    ·rename_i cs hf
     simp at h
     subst h
     obtain ⟨⟨it, h1, h2, h3, h4, _⟩, hk⟩ := hE.ty t i hi
     rw [hd] at hk
     obtain ⟨fields, hu, hm, places, hpl⟩ := hk
     have hz := acells_rep (ofConst_rep (w := w) (R := R) (N := N) i.zero) hok.1
     have hlen := hr.length
     simp at hlen
     have hfst : (parts ps.toList vals).map (·.1) = ((ps.map fun (i, x) => (i, ρ x)).toList).map (·.1) := by
      unfold parts
      rw [List.map_fst_zip (by simp; omega)]
      simp
     have hsnd : (parts ps.toList vals).map (·.2) = vals := by
      unfold parts
      rw [List.map_snd_zip (by simp; omega)]
     obtain ⟨us, f1, f2⟩ := fillL_run (cplace := (places.toArray[·]?)) (fun k x hx => by
      unfold placeOf at hx
      split at hx
      ·rename_i off j hfo
       simp at hx
       subst hx
       obtain ⟨fields', fld, g1, g2, g3, g4⟩ := fieldOf_ok hE hfo
       rw [hu] at g1
       simp at g1
       subst g1
       obtain ⟨⟨jt, k1, k2, _⟩, _⟩ := hE.ty _ _ g4
       have := mapM_get _ hpl k
       have g2' : fields.toList[k]? = some fld := by simpa using g2
       rw [g2'] at this
       simp [k1, k2, g3] at this
       simpa using this
      simp at hx) _ ((ps.map fun (i, x) => (i, ρ x)).toList) _ i.zero.cells cs hfst (by
      rw [hsnd]
      have : (List.map (fun x => x.2) (ps.map fun (i, x) => (i, ρ x)).toList) = (ps.toList.map (·.2)).map ρ := by simp
      rw [this]; exact hr) hz hf
     refine ⟨rfl, .agg us, run_build w t _ us ?_, ?_⟩
     ·unfold Program.built
      simp only [h1, hu, h4, hpl]
      exact f1
     have := mkAgg_rep f2
     simpa using this
    simp at h
   simp at h
  ·rename_i ne e hd
   split at h
   ·rename_i ie hie
    split at h
    ·rename_i hok
     split at h
     ·rename_i cs hf
      simp at h
      subst h
      obtain ⟨⟨it, h1, h2, h3, h4, _⟩, hk⟩ := hE.ty t i hi
      rw [hd] at hk
      obtain ⟨⟨je, k1, k2, _⟩, _⟩ := hE.ty e ie hie
      have hz := acells_rep (ofConst_rep (w := w) (R := R) (N := N) i.zero) hok.1
      have hlen := hr.length
      simp at hlen
      have hfst : (parts ps.toList vals).map (·.1) = ((ps.map fun (i, x) => (i, ρ x)).toList).map (·.1) := by
       unfold parts
       rw [List.map_fst_zip (by simp; omega)]
       simp
      have hsnd : (parts ps.toList vals).map (·.2) = vals := by
       unfold parts
       rw [List.map_snd_zip (by simp; omega)]
      obtain ⟨us, f1, f2⟩ := fillL_run (cplace := fun i => some (i * je.size, je.size)) (fun k x hx => by rw [k2]; exact hx) _ ((ps.map fun (i, x) => (i, ρ x)).toList) _ i.zero.cells cs hfst (by
        rw [hsnd]
        have : (List.map (fun x => x.2) (ps.map fun (i, x) => (i, ρ x)).toList) = (ps.toList.map (·.2)).map ρ := by simp
        rw [this]; exact hr) hz hf
      refine ⟨rfl, .agg us, run_build w t _ us ?_, ?_⟩
      ·unfold Program.built
       simp only [h1, hk, h4, k1]
       exact f1
      have := mkAgg_rep f2
      simpa using this
     simp at h
    simp at h
   simp at h
  simp at h
 simp at h
/-- The bound on a slice's length. -/
theorem repC_bound {v : Value} {es : List Dat} (h : RepC w R v (.slice es)) : es.length <= lim := by
 cases h with
 | nil => simp
 | slice => assumption
theorem isFlat_len {n : Nat} (h : n <= lim) : isFlat (.int .i64 n) = true := isFlat_int.2 (by simp [IntKind.min, IntKind.max, IntKind.bits, IntKind.signed]; unfold lim at h; omega)
theorem sound_len_pure (hE : E.Ok P) {t ty : TypeId} {ats : Array TypeId} (hat : ats[0]? = some t) {a : AVal} {x : Value} {out : Out} (h : aLen E t [a] none = some out) (ha : RepV w R N a x []) :
  out.eff = .keep /\ ∃ cv, (Builtin.len_ ats ty #[x]).run P w = .ok cv w /\ RepV w R N out.val cv [] := by
 unfold aLen at h
 split at h
 ·rename_i es heq
  simp at heq
  subst heq
  obtain ⟨_, hr⟩ := repV_slice_inv ha
  split at h
  ·rename_i e hd
   simp [hE.std, Prims.std] at h
   subst h
   have hu := hE.desc_slice hd
   refine ⟨rfl, .int .i64 es.length, ?_, repV_flat (isFlat_len (repC_bound hr))⟩
   cases hr with
   | nil => simp [Builtin.len_, hat, run_und hu, goInt]
   | slice => simp [Builtin.len_, hat, run_und hu, goInt]
  simp at h
 ·rename_i s heq
  simp at heq
  subst heq
  obtain ⟨_, rfl, hfl⟩ := repV_flat_inv ha
  split at h
  ·rename_i hd
   simp [hE.std, Prims.std] at h
   subst h
   exact ⟨rfl, .int .i64 s.size, by simp [Builtin.len_, hat, run_und (hE.desc_string hd), goInt], repV_flat (isFlat_int.2 (by simp [isFlat] at hfl; simp [IntKind.min, IntKind.max, IntKind.bits, IntKind.signed]; omega))⟩
  simp at h
 ·rename_i n s off len heq
  simp at heq
  subst heq
  simp only [RepV] at ha
  obtain ⟨_, bl, cap, hN, rfl, hcap, hs0, hlt, hsz⟩ := ha
  split at h
  ·rename_i e hd
   split at h
   ·rename_i hl
    simp at h
    subst h
    have hl : len <= lim := by rwa [Nat.ble_eq] at hl
    exact ⟨rfl, .int .i64 len, by simp [Builtin.len_, hat, run_und (hE.desc_slice hd), goInt], repV_flat (isFlat_len hl)⟩
   simp at h
  simp at h
 ·rename_i heq
  simp at heq
  subst heq
  obtain ⟨_, rfl, _⟩ := repV_flat_inv ha
  split at h
  ·rename_i k e hd
   simp at h
   subst h
   exact ⟨rfl, .int .i64 0, by simp [Builtin.len_, hat, run_und (hE.desc_map hd), goInt], repV_flat rfl⟩
  simp at h
 ·split at h <;> simp_all
 simp at h
theorem repMap_length : ∀ {es : List (Value × Dat)} {ents : List MapEntry}, RepMap w R es ents -> ents.length = es.length
 | [], _, h => by simp [RepMap] at h; simp [h]
 |(_, _) :: es, _, ⟨e, es', h1, _, _, h4⟩ => by simp [h1, repMap_length h4]
theorem sound_len_map (hE : E.Ok P) {t ty : TypeId} {ats : Array TypeId} (hat : ats[0]? = some t) {n : Name} {es : List (Value × Dat)} {out : Out} (h : aLen E t [.map n] (some (.map es)) = some out)
  {b clock : Nat} {ents : Array MapEntry} (hb : w.heap[b]? = some (.map ents clock)) (hr : RepMap w R es ents.toList) :
  out.eff = .keep /\ ∃ cv, (Builtin.len_ ats ty #[.map (some b)]).run P w = .ok cv w /\ RepV w R N out.val cv [] := by
 simp only [aLen] at h
 split at h
 ·rename_i k e es' hd heq
  simp at heq
  subst heq
  split at h
  ·rename_i hlim
   simp at h
   subst h
   have := repMap_length hr
   refine ⟨rfl, .int .i64 es.length, ?_, repV_flat (isFlat_len hlim)⟩
   simp at this
   simp [Builtin.len_, hat, run_und (hE.desc_map hd), goInt, getObj, Sem.run, hb, this]
  simp at h
 simp at h
theorem key_ok (hE : E.Ok P) {kt : TypeId} {td : TypeDesc} (h : E.key kt = some td) : P.underlying kt = some td /\ (td = .string ∨ (∃ k, td = .int k) ∨ td = .bool) := by
 unfold TEnv.key at h
 split at h
 ·rename_i i hi
  have hk := (hE.ty kt i hi).2
  cases hd : i.desc <;> rw [hd] at h hk <;> simp [keyDesc] at h <;> subst h <;> simp_all
 simp at h
theorem findKey_now (td : TypeDesc) (k : Value) : ∀ {es : List (Value × Dat)} {ents : List MapEntry} {i : Nat} {r : Option (Nat × Dat)}, RepMap w R es ents -> findKey td k es i = some r ->
  (match r with
   | some (j, d) => ∃ e, ents[j - i]? = some e /\ i <= j /\ Instr.findNow td k ents i = some (some (j, e.val)) /\ RepD w R e.val d /\ Instr.sameNow td k e.key = some true /\ es[j - i]? = some (e.key, d)
   | none => Instr.findNow td k ents i = some none)
 | [], ents, i, r, h, hf => by
  simp [RepMap] at h
  subst h
  simp [findKey] at hf
  subst hf
  rfl
 |(x, d) :: es, ents, i, r, ⟨e, es', h1, h2, h3, h4⟩, hf => by
  subst h1
  subst h2
  simp only [findKey] at hf
  split at hf
  ·rename_i hs
   simp at hf
   subst hf
   exact ⟨e, by simp, Nat.le_refl _, by simp [Instr.findNow, hs], h3, hs, by simp⟩
  ·rename_i hs
   have ih := findKey_now td k h4 hf
   cases r with
   | none => simpa [Instr.findNow, hs] using ih
   | some q =>
    obtain ⟨j, d'⟩ := q
    obtain ⟨e', f1, f2, f3, f4, f5, f6⟩ := ih
    refine ⟨e', ?_, by omega, by simpa [Instr.findNow, hs] using f3, f4, f5, ?_⟩
    ·rw [show j - i = (j - (i + 1)) + 1 by omega]; simpa using f1
    rw [show j - i = (j - (i + 1)) + 1 by omega]; simpa using f6
  simp at hf
theorem run_checkKey' (n : Nat) {kt : TypeId} {td : TypeDesc} (hu : P.underlying kt = some td) (hk : td = .string ∨ (∃ k, td = .int k) ∨ td = .bool) (b : Bool) (x : Value) :
  (Instr.checkKey b (n + 1) kt x).run P w = .ok () w := by
 rcases hk with rfl | ⟨k, rfl⟩ | rfl <;> cases x <;> simp [Instr.checkKey, run_und hu]
theorem run_checkKey {kt : TypeId} {td : TypeDesc} (hu : P.underlying kt = some td) (hk : td = .string ∨ (∃ k, td = .int k) ∨ td = .bool) (b : Bool) (x : Value) :
  (Instr.checkKey b 10000 kt x).run P w = .ok () w := run_checkKey' 9999 hu hk b x
theorem key_std (hE : E.Ok P) {td : TypeDesc} {k : Value} {es : List (Value × Dat)} {r : Option (Nat × Dat)} (h : E.pr.key td k es = some r) : findKey td k es 0 = some r := by
 rw [hE.std] at h; exact h
theorem run_findKey {kt : TypeId} {td : TypeDesc} (hu : P.underlying kt = some td) {k : Value} {ents : List MapEntry} {r : Option (Nat × Value)} (h : Instr.findNow td k ents 0 = some r) :
  (Instr.findKey kt k ents).run P w = .ok r w := by
 simp [Instr.findKey, run_und hu, h]
theorem run_lookup (hE : E.Ok P) {t kt et : TypeId} {td : TypeDesc} {ei : TI} (hmu : P.underlying t = some (.map kt et)) (hei : E.ty et = some ei) (hku : P.underlying kt = some td) (hkk : td = .string ∨ (∃ k, td = .int k) ∨ td = .bool)
  {mx k : Value} {ents : Array MapEntry} (hm : (mx = .map none /\ ents = #[]) ∨ ∃ b clock, mx = .map (some b) /\ w.heap[b]? = some (.map ents clock)) {r : Option (Nat × Value)} (hf : Instr.findNow td k ents.toList 0 = some r) (ok : Bool) :
  (Instr.lookup t mx k ok).run P w = .ok (match r with | some (_, v) => (if ok then .tuple #[v, .bool true] else v) | none => (if ok then .tuple #[ei.zero, .bool false] else ei.zero)) w := by
 have hfk := run_findKey (w := w) hku hf
 rcases hm with ⟨rfl, rfl⟩ | ⟨b, clock, rfl, hb⟩
 ·cases r with
  | none => simp at hfk; simp [Instr.lookup, run_und hmu, run_checkKey hku hkk, hfk, hE.run_zero hei]
  | some q => simp at hfk; simp [Instr.lookup, run_und hmu, run_checkKey hku hkk, hfk]
 cases r with
 | none => simp [Instr.lookup, run_und hmu, run_checkKey hku hkk, hfk, hE.run_zero hei, getObj, Sem.run, hb]
 | some q => simp [Instr.lookup, run_und hmu, run_checkKey hku hkk, hfk, getObj, Sem.run, hb]
theorem sound_lookup (hE : E.Ok P) {t : TypeId} {ok : Bool} {m : AVal} {kv : AVal} {ob : Option AObj} {out : Out} (h : aLookup E t ok [m, kv] ob = some out) {mx kx : Value}
  (hkr : RepV w R N kv kx []) (hm : RepV w R N m mx [])
  (hob : ∀ n es, m = .map n -> ob = some (.map es) -> ∃ b ents clock, mx = .map (some b) /\ w.heap[b]? = some (.map ents clock) /\ RepMap w R es ents.toList) :
  out.eff = .keep /\ ∃ cv, (Instr.lookup t mx kx ok).run P w = .ok cv w /\ RepV w R N out.val cv [] := by
 unfold aLookup at h
 split at h
 ·rename_i m' k heq
  simp at heq
  obtain ⟨rfl, rfl⟩ := heq
  obtain ⟨_, rfl, hkf⟩ := repV_flat_inv hkr
  split at h
  ·rename_i kt et hd
   split at h
   ·rename_i td ei es hkd hei hes
    obtain ⟨hku, hkk⟩ := key_ok hE hkd
    have hmu := hE.desc_map hd
    have hents : ∃ ents : Array MapEntry, ((mx = .map none /\ ents = #[]) ∨ ∃ b clock, mx = .map (some b) /\ w.heap[b]? = some (.map ents clock)) /\ RepMap w R es ents.toList := by
     unfold mapEntries at hes
     split at hes
     ·simp at hes
      subst hes
      obtain ⟨_, rfl, _⟩ := repV_flat_inv hm
      exact ⟨#[], .inl ⟨rfl, rfl⟩, rfl⟩
     ·rename_i n
      split at hes
      ·rename_i es'
       simp at hes
       subst hes
       obtain ⟨b, ents, clock, rfl, hb, hr⟩ := hob n es' rfl rfl
       exact ⟨ents, .inr ⟨b, clock, rfl, hb⟩, hr⟩
      simp at hes
     simp at hes
    obtain ⟨ents, he, hrm⟩ := hents
    split at h
    ·rename_i j d hf
     simp at h
     subst h
     obtain ⟨e, _, _, f3, f4, _, _⟩ := findKey_now td _ hrm (key_std hE hf)
     refine ⟨rfl, _, run_lookup hE hmu hei hku hkk he f3 ok, ?_⟩
     cases ok
     ·simpa [found] using repV_dat (N := N) f4
     simp only [found, if_true, RepV]
     exact ⟨[e.val, .bool true], rfl, repVs_cons (b1 := []) (repV_dat f4) (repVs_cons (b1 := []) (b2 := []) (repV_flat rfl) repVs_nil)⟩
    ·rename_i hf
     split at h
     ·rename_i z hz
      simp at h
      subst h
      have f3 := findKey_now td _ hrm (key_std hE hf)
      have hzr := asDat_rep (ofConst_rep (w := w) (R := R) (N := N) ei.zero) hz
      refine ⟨rfl, _, run_lookup hE hmu hei hku hkk he f3 ok, ?_⟩
      cases ok
      ·simpa [found] using repV_dat (N := N) hzr
      simp only [found, if_true, RepV]
      exact ⟨[ei.zero, .bool false], rfl, repVs_cons (b1 := []) (repV_dat hzr) (repVs_cons (b1 := []) (b2 := []) (repV_flat rfl) repVs_nil)⟩
     simp at h
    simp at h
   simp at h
  simp at h
 simp at h
end
end Go.Tp

namespace Go.Tp
section
variable {P : Program} {E : TEnv} {w : World} {R : Own} {N : Name -> Option Nat}
/-! #### Rows of cells -/
theorem repCs_append : ∀ {vs us : List Value} {cs ds : List Dat}, RepCs w R vs cs -> RepCs w R us ds -> RepCs w R (vs ++ us) (cs ++ ds)
 | [], _, [], _, _, h => h
 | _ :: _, _, _ :: _, _, h, k => ⟨h.1, repCs_append h.2 k⟩
 | [], _, _ :: _, _, h, _ => h.elim
 | _ :: _, _, [], _, h, _ => h.elim
theorem repCs_get : ∀ {vs : List Value} {cs : List Dat} {j : Nat} {c : Dat}, RepCs w R vs cs -> cs[j]? = some c -> ∃ v, vs[j]? = some v /\ RepC w R v c
 | [], [], _, _, _, h => by simp at h
 | v :: _, c :: _, 0, _, h, hj => by simp at hj; subst hj; exact ⟨v, by simp, h.1⟩
 | _ :: _, _ :: _, j + 1, _, h, hj => by simp at hj; simpa using repCs_get h.2 hj
 | [], _ :: _, _, _, h, _ => h.elim
 | _ :: _, [], _, _, h, _ => h.elim
theorem flat_range {α : Type} {s : Nat} (hs : 0 < s) (f : Nat -> List α) (hf : ∀ i, (f i).length = s) : ∀ (n i0 k : Nat),
  ((List.range' i0 n).flatMap f)[k]? = if k < n * s then (f (i0 + k / s))[k % s]? else none
 | 0, i0, k => by simp
 | n + 1, i0, k => by
  simp only [List.range'_succ, List.flatMap_cons]
  by_cases hk : k < s
  ·rw [List.getElem?_append_left (by rw [hf]; exact hk), Nat.div_eq_of_lt hk, Nat.mod_eq_of_lt hk, if_pos (by rw [Nat.add_mul, Nat.one_mul]; omega), Nat.add_zero]
  have ih := flat_range hs f hf n (i0 + 1) (k - s)
  rw [List.getElem?_append_right (by rw [hf]; omega), hf, ih]
  have hd : k / s = (k - s) / s + 1 := by rw [← Nat.add_div_right _ hs, Nat.sub_add_cancel (by omega)]
  have hm : k % s = (k - s) % s := by rw [← Nat.add_mod_right (k - s) s, Nat.sub_add_cancel (by omega)]
  rw [hd, hm, show i0 + 1 + (k - s) / s = i0 + ((k - s) / s + 1) by omega]
  by_cases h2 : k - s < n * s
  ·rw [if_pos h2, if_pos (by rw [Nat.add_mul, Nat.one_mul]; omega)]
  rw [if_neg h2, if_neg (by rw [Nat.add_mul, Nat.one_mul]; omega)]
theorem flat_length {s : Nat} : ∀ {es : List Dat}, (∀ d ∈ es, d.cells.length = s) -> (es.flatMap Dat.cells).length = es.length * s
 | [], _ => by simp
 | e :: es, h => by
  have := flat_length (es := es) (fun d hd => h d (List.mem_cons_of_mem _ hd))
  simp only [List.flatMap_cons, List.length_append, this, h e List.mem_cons_self, List.length_cons, Nat.add_mul, Nat.one_mul]
  omega
theorem flat_get {s : Nat} (hs : 0 < s) : ∀ {es : List Dat}, (∀ d ∈ es, d.cells.length = s) -> ∀ i j e, es[i]? = some e -> j < s -> (es.flatMap Dat.cells)[i * s + j]? = e.cells[j]?
 | [], _, i, j, e, h, _ => by simp at h
 | d :: es, h, 0, j, e, he, hj => by
  simp at he
  subst he
  simp only [List.flatMap_cons, Nat.zero_mul, Nat.zero_add]
  rw [List.getElem?_append_left (by rw [h d List.mem_cons_self]; exact hj)]
 | d :: es, h, i + 1, j, e, he, hj => by
  simp at he
  have := flat_get hs (es := es) (fun d hd => h d (List.mem_cons_of_mem _ hd)) i j e he hj
  simp only [List.flatMap_cons]
  rw [List.getElem?_append_right (by rw [h d List.mem_cons_self, Nat.add_mul]; omega), h d List.mem_cons_self, ← this]
  congr 1
  rw [Nat.add_mul]
  omega
/-- The cells of a slice that reads as data, one behind the other. -/
theorem repC_flat {v : Value} {es : List Dat} (h : RepC w R v (.slice es)) (hne : es ≠ []) {s : Nat} (hs : ∀ d ∈ es, d.cells.length = s) :
  ∃ b off cap cells, v = .slice (some ⟨b, off, none⟩) es.length cap /\ es.length <= cap /\ RepCs w R cells (es.flatMap Dat.cells) /\ ∀ (j : Nat) u, cells[j]? = some u -> w.cell? ⟨b, off + j, none⟩ = some u /\ ¬ R b (off + j) := by
 cases h with
 | nil => exact absurd rfl hne
 | slice b off cap s' es vs hs0 hlen hcap hb hcell hrep =>
  obtain rfl : s' = s := by
   cases es with
   | nil => exact absurd rfl hne
   | cons e es => rw [← hlen e (by simp), hs e (by simp)]
  have hfl : ∀ i, ((List.range s').map (vs i)).length = s' := by simp
  refine ⟨b, off, cap, (List.range' 0 es.length).flatMap (fun i => (List.range s').map (vs i)), rfl, hcap, ?_, ?_⟩
  ·apply repCs_of_get
   ·rw [flat_length hlen]
    clear hcell hrep hb hcap hs hne
    induction es.length with
    | zero => simp
    | succ n ih => rw [List.range'_concat, List.flatMap_append, List.length_append, ih]; simp [Nat.add_mul]
   intro k v c hv hc
   rw [flat_range hs0 _ hfl] at hv
   split at hv
   ·rename_i hk
    have hi : k / s' < es.length := (Nat.div_lt_iff_lt_mul hs0).2 hk
    have hj : k % s' < s' := Nat.mod_lt _ hs0
    simp [hj] at hv
    subst hv
    have he : es[k / s']? = some es[k / s'] := by simp [hi]
    have := flat_get hs0 hlen (k / s') (k % s') _ he hj
    rw [Nat.div_add_mod' k s'] at this
    rw [this] at hc
    exact hrep _ _ _ _ he hc
   simp at hv
  intro k u hu
  rw [flat_range hs0 _ hfl] at hu
  split at hu
  ·rename_i hk
   have hi : k / s' < es.length := (Nat.div_lt_iff_lt_mul hs0).2 hk
   have hj : k % s' < s' := Nat.mod_lt _ hs0
   simp [hj] at hu
   subst hu
   have := hcell (k / s') (k % s') hi hj
   rw [Nat.add_assoc, Nat.div_add_mod' k s'] at this
   exact this
  simp at hu
/-- A row whose first cells read as the elements' cells. -/
theorem repC_row {b cap s : Nat} {arr : Array Value} {t : TypeId} {fz : Nat × Nat} (hb : w.heap[b]? = some (.cells arr t fz)) {es : List Dat} (hs0 : 0 < s) (hs : ∀ d ∈ es, d.cells.length = s)
  {cells : List Value} (hr : RepCs w R cells (es.flatMap Dat.cells)) (hpre : ∀ (j : Nat) u, cells[j]? = some u -> arr[j]? = some u) (hR : ∀ j, j < es.length * s -> ¬ R b j) (hcap : es.length <= cap) (hlim : es.length <= lim) :
  RepC w R (.slice (some ⟨b, 0, none⟩) es.length cap) (.slice es) := by
 have hl := repCs_length hr
 rw [flat_length hs] at hl
 refine .slice b 0 cap s es (fun i j => (cells[i * s + j]?).getD undef) hs0 hs hcap hlim (fun i j hi hj => ?_) (fun i j e c he hc => ?_)
 ·have hlt : i * s + j < es.length * s := by
   have : (i + 1) * s <= es.length * s := Nat.mul_le_mul_right _ hi
   rw [Nat.add_mul, Nat.one_mul] at this
   omega
  rw [Nat.zero_add]
  refine ⟨?_, hR _ hlt⟩
  rw [cell_of_row w b (i * s + j) arr t fz hb]
  have : (i * s + j) < cells.length := by omega
  have hg : cells[i * s + j]? = some cells[i * s + j] := by simp [this]
  rw [hpre _ _ hg, hg]
  rfl
 have hj : j < s := by
  rw [← hs e (List.mem_of_getElem? he)]
  rcases Nat.lt_or_ge j e.cells.length with h' | h'
  ·exact h'
  rw [List.getElem?_eq_none h'] at hc; simp at hc
 have := flat_get hs0 hs i j e he hj
 rw [hc] at this
 obtain ⟨v, hv, hrv⟩ := repCs_get hr this
 simpa [hv] using hrv
/-! #### New blocks -/
theorem step_alloc (o : Obj) {R' : Own} (h : ∀ b off, b < w.heap.size -> (R' b off ↔ R b off)) : Step w R (w.alloc o) R' where
 os := rfl
 tape := rfl
 output := rfl
 size := by simp
 block b hb hR := ⟨heap_alloc_old w o b hb, fun off h' => hR off ((h b off hb).1 h')⟩
 cell b off hb hR := ⟨fun h' => hR ((h b off hb).1 h'), World.cell?_of_block (a := ⟨b, off, none⟩) (heap_alloc_old w o b hb)⟩
 sizes b hb := rowSize_same (heap_alloc_old w o b hb)
theorem keep_alloc (o : Obj) {R' : Own} (h : ∀ b off, b < w.heap.size -> (R' b off ↔ R b off)) (bs : List Nat) : Keep w R (w.alloc o) R' bs :=
 ⟨step_alloc o h, fun b _ hb => ⟨heap_alloc_old w o b hb, fun off hr => (h b off hb).2 hr⟩⟩
/-- The writable cells, a new block with none of its own. -/
def Own.cut (R : Own) (n : Nat) : Own := fun b off => b ≠ n /\ R b off
/-- .. or those behind its last cell alone. -/
def Own.cutG (R : Own) (n k : Nat) : Own := fun b off => (b ≠ n /\ R b off) ∨ (b = n /\ k <= off)
theorem Own.cutG_iff {R : Own} {n k b off : Nat} (hb : b < n) : (R.cutG n k b off ↔ R b off) := ⟨fun h => by rcases h with h | h; exact h.2; exact absurd h.1 (by omega), fun h => .inl ⟨by omega, h⟩⟩
theorem Own.cut_iff {R : Own} {n b off : Nat} (hb : b < n) : (R.cut n b off ↔ R b off) := ⟨fun h => h.2, fun h => ⟨by omega, h⟩⟩
theorem byteOk_spec (hE : E.Ok P) {t e : TypeId} (hu : P.underlying t = some (.slice e)) {es : List Dat} (h : byteOk E t es = true) (hb : isBytes es = true) : e = byteId := by
 unfold byteOk at h
 rw [hb] at h
 dsimp only at h
 split at h
 ·rename_i e' hd
  have := hE.desc_slice hd
  rw [hu] at this
  simp at this
  rw [this]
  exact Nat.eq_of_beq_eq_true h
 simp at h
def isS : AVal -> Bool
 | .own _ => true
 | .dat (.slice _) => true
 | .dat (.flat (.slice none 0 0)) => true
 | _ => false
theorem bldSh_iff {cs : List AVal} : bldSh cs = true ↔ ∃ p q, cs = [p, q] /\ isP p = true /\ isS q = true := by
 constructor
 ·intro h
  unfold bldSh at h
  split at h
  ·exact ⟨_, _, rfl, h, rfl⟩
  ·exact ⟨_, _, rfl, h, rfl⟩
  ·exact ⟨_, _, rfl, h, rfl⟩
  simp at h
 rintro ⟨p, q, rfl, h, hq⟩
 unfold isS at hq
 split at hq
 ·exact h
 ·exact h
 ·exact h
 simp at hq
theorem isBytes_left {es ds : List Dat} (h : isBytes (es ++ ds) = true) (hne : es ≠ []) : isBytes es = true := by
 cases es with
 | nil => exact absurd rfl hne
 | cons d es =>
  simp only [List.cons_append] at h
  unfold isBytes at h ⊢
  split at h
  ·rename_i heq; simp at heq; obtain ⟨rfl, _⟩ := heq; rfl
  simp at h
theorem own_newW {b cap s : Nat} {w' : World} {R' : Own} {arr : Array Value} {t : TypeId} (hb : w'.heap[b]? = some (.cells arr t (0, 0))) {es : List Dat} (hs0 : 0 < s) (hs : ∀ d ∈ es, d.cells.length = s)
  {cells : List Value} (hr : RepCs w' R' cells (es.flatMap Dat.cells)) (hpre : ∀ (j : Nat) u, cells[j]? = some u -> arr[j]? = some u) (hR : ∀ j, j < es.length * s -> ¬ R' b j)
  (hR' : ∀ j, es.length * s <= j -> j < cap * s -> R' b j) (hcap : es.length <= cap) (he : es = [] -> cap = 0) (hin : cap * s <= arr.size) (hlim : es.length <= lim) (hty : isBytes es = true -> t = byteId /\ ∀ x, arr.size <= x -> R' b x) :
  RepV w' R' N (.own es) (.slice (some ⟨b, 0, none⟩) es.length cap) [b] := by
 simp only [RepV]
 exact .row b cap s es arr t hb hs0 hs hcap he hin (repC_row hb hs0 hs hr hpre hR hcap hlim) (fun x h1 h2 => hR' x h1 h2) hty
theorem own_new {b cap s : Nat} {w' : World} {R' : Own} {arr : Array Value} {t : TypeId} (hb : w'.heap[b]? = some (.cells arr t (0, 0))) {es : List Dat} (hs0 : 0 < s) (hs : ∀ d ∈ es, d.cells.length = s)
  {cells : List Value} (hr : RepCs w' R' cells (es.flatMap Dat.cells)) (hpre : ∀ (j : Nat) u, cells[j]? = some u -> arr[j]? = some u) (hR : ∀ j, j < es.length * s -> ¬ R' b j)
  (hR' : ∀ j, es.length * s <= j -> j < cap * s ∨ arr.size <= j -> R' b j) (hcap : es.length <= cap) (he : es = [] -> cap = 0) (hin : cap * s <= arr.size) (hlim : es.length <= lim) (hty : isBytes es = true -> t = byteId) :
  RepV w' R' N (.own es) (.slice (some ⟨b, 0, none⟩) es.length cap) [b] :=
 own_newW hb hs0 hs hr hpre hR (fun j h1 h2 => hR' j h1 (.inl h2)) hcap he hin hlim (fun h => ⟨hty h, fun x hx => hR' x (Nat.le_trans (Nat.le_trans (Nat.mul_le_mul_right _ hcap) hin) hx) (.inr hx)⟩)
theorem sliceParts_vals {size : Nat} : ∀ {k : Nat} {ps : List Nat} {vals : List AVal} {vs : List Value} {ds : List Dat}, ps.length = vals.length -> RepVs w R N vals vs [] -> sliceParts size k (ps.zip vals) = some ds ->
  ps = List.range' k vs.length /\ RepCs w R (vs.flatMap fun v => v.cells.toList) (ds.flatMap Dat.cells) /\ (∀ d ∈ ds, d.cells.length = size) /\ (∀ v ∈ vs, v.cells.size = size) /\ ds.length = vs.length
 | k, [], vals, vs, ds, hl, hr, h => by
  have : vals = [] := List.eq_nil_of_length_eq_zero (by simpa using hl.symm)
  subst this
  obtain ⟨rfl, _⟩ := repVs_nil_inv hr
  simp [sliceParts] at h
  subst h
  exact ⟨rfl, trivial, by simp, by simp, rfl⟩
 | k, p :: ps, [], vs, ds, hl, hr, h => by simp at hl
 | k, p :: ps, a :: vals, vs, ds, hl, hr, h => by
  obtain ⟨v, vs', b1, b2, rfl, e2, h1, h2⟩ := repVs_cons_inv hr
  obtain ⟨rfl, rfl⟩ := List.append_eq_nil_iff.1 e2.symm
  simp only [List.zip_cons_cons, sliceParts] at h
  split at h
  ·rename_i hp
   subst hp
   split at h
   ·rename_i d hd
    split at h
    ·rename_i hsz
     split at h
     ·rename_i ds' hds
      simp at h
      subst h
      obtain ⟨f1, f2, f3, f4, f5⟩ := sliceParts_vals (by simpa using hl) h2 hds
      have hrd := asDat_rep h1 hd
      have hcs := repD_cells hrd
      refine ⟨by simp [f1, List.range'_succ], ?_, ?_, ?_, by simp [f5]⟩
      ·simpa using repCs_append hcs f2
      ·intro x hx; rcases List.mem_cons.1 hx with rfl | hx
       ·exact hsz
       exact f3 x hx
      intro x hx; rcases List.mem_cons.1 hx with rfl | hx
      ·have := repCs_length hcs; simp at this; omega
      exact f4 x hx
     simp at h
    simp at h
   simp at h
  simp at h
theorem sound_buildSlice (hE : E.Ok P) {t : TypeId} {len : Nat} {ps : Array (Nat × Operand)} {ρ : Operand -> Value} {vals : List AVal} {out : Out} (h : aBuildSlice E t len ps.toList vals = some out)
  (hr : RepVs w R N vals ((ps.toList.map (·.2)).map ρ) []) (bs : List Nat) :
  out.eff = .keep /\ ∃ cv w' R', (Instr.buildSlice t len (ps.map fun (i, x) => (i, ρ x))).run P w = .ok cv w' /\ Keep w R w' R' bs /\ RepV w' R' N out.val cv [w.heap.size] := by
 unfold aBuildSlice at h
 split at h
 ·rename_i i hel
  obtain ⟨e, hu, hty⟩ := elemOf_ok hE hel
  split at h
  ·rename_i hc
   obtain ⟨hs0, hsm, hvl⟩ := hc
   split at h
   ·rename_i ds hds
    split at h
    ·rename_i hdl0
     obtain ⟨hdl, hbo⟩ := hdl0
     simp at h
     subst h
     refine ⟨rfl, ?_⟩
     obtain ⟨⟨ie, k1, k2, k3, k4, k5⟩, _⟩ := hE.ty e i hty
     have hlen := hr.length
     unfold parts at hds
     obtain ⟨f1, f2, f3, f4, f5⟩ := sliceParts_vals (by rw [List.length_map]; exact hvl.symm) hr hds
     generalize hvs : (ps.toList.map (·.2)).map ρ = vs at *
     have hst : ∀ b off, b < w.heap.size -> (R.cut w.heap.size b off ↔ R b off) := fun b off hb => Own.cut_iff hb
     have hcps : (ps.map fun (i, x) => (i, ρ x)).toList = (vs.zipIdx 0).map fun x => (x.2, x.1) := by
      apply List.ext_getElem?
      intro k
      have g1 : (ps.toList.map (·.1))[k]? = (List.range' 0 vs.length)[k]? := by rw [f1]
      have g2 : ((ps.toList.map (·.2)).map ρ)[k]? = vs[k]? := by rw [hvs]
      simp only [Array.toList_map, List.getElem?_map, List.getElem?_zipIdx] at g1 g2 ⊢
      cases hk : ps.toList[k]? with
      | none =>
       rw [hk] at g2
       simp at g2
       have : vs[k]? = none := by simpa using g2
       simp [this]
      | some q =>
       rw [hk] at g1 g2
       simp at g1 g2
       have hkl : k < vs.length := by
        rcases Nat.lt_or_ge k vs.length with h' | h'
        ·exact h'
        rw [List.getElem?_eq_none h'] at g2; simp at g2
       rw [List.getElem?_range' hkl] at g1
       simp at g1
       rw [← g2]
       simp [g1]
     by_cases h0 : len = 0
     ·subst h0
      have hv0 : vs = [] := List.eq_nil_of_length_eq_zero (by omega)
      have hd0 : ds = [] := List.eq_nil_of_length_eq_zero hdl
      subst hv0
      subst hd0
      refine ⟨.slice (some ⟨w.heap.size, 0, none⟩) 0 0, w.alloc (.cells #[] e), R.cutG w.heap.size 0, ?_, keep_alloc _ (fun b off hb => Own.cutG_iff hb) bs, ?_⟩
      ·have hp : ps = #[] := by simpa using hvs
       subst hp
       have hr0 : Array.range 0 = #[] := by apply Array.eq_empty_of_size_eq_zero; simp
       simp [Instr.buildSlice, run_und hu, hE.run_size hty, Instr.fill, newRow, hr0]
      exact own_new (es := []) (cells := []) (s := i.size) (heap_alloc_new w _) hs0 (by simp) trivial (by simp) (by simp) (fun j _ _ => .inr ⟨rfl, Nat.zero_le _⟩) (by simp) (by simp) (by simp) (by simp) (by simp [isBytes])
     have hzs : ∃ z, ie.zero = some z := ⟨_, k4⟩
     have hfill := Great.fill_whole (s := i.size) hs0 vs ((Array.range (len * ie.size)).map (i.zero.cells[· % i.zero.cells.size]!)) f4 (by rw [k2]; simp; rw [← f5, hdl])
     have hrun := run_buildSlice w t e len (ps.map fun (i, x) => (i, ρ x)) _ ie i.zero hu k1 k4 (by rw [k2]; omega) (by rw [k2]; exact Nat.mul_ne_zero h0 (by omega)) (by rw [hcps, k2]; rw [k2] at hfill; exact hfill)
     have hcl := repCs_length f2
     rw [flat_length f3] at hcl
     have hstG : ∀ b off, b < w.heap.size -> (R.cutG w.heap.size (ds.length * i.size) b off ↔ R b off) := fun b off hb => Own.cutG_iff hb
     refine ⟨_, _, R.cutG w.heap.size (ds.length * i.size), hrun, keep_alloc _ hstG bs, ?_⟩
     rw [← hdl]
     have hstep : Step w R (w.alloc (.cells (vs.flatMap fun v => v.cells.toList).toArray e)) (R.cutG w.heap.size (ds.length * i.size)) := step_alloc _ hstG
     refine own_new (s := i.size) (heap_alloc_new w _) hs0 f3 (f2.step hstep) (by simp) (fun j hj h' => by rcases h' with h' | h'; exact h'.1 rfl; omega) (fun j h1 h2 => .inr ⟨rfl, h1⟩) (Nat.le_refl _) (fun hh => by rw [hh]; rfl) (by simp [hcl]) ?_ (byteOk_spec hE hu hbo)
     unfold lim
     have : len * 1 <= len * i.size := Nat.mul_le_mul_left _ hs0
     omega
    simp at h
   simp at h
  simp at h
 simp at h
theorem sound_buildRow (hE : E.Ok P) {t : TypeId} {len : Nat} {ps : Array (Nat × Operand)} {ρ : Operand -> Value} {vals : List AVal} {out : Out} (h : aBuildRow E t len ps.toList vals = some out)
  (hr : RepVs w R N vals ((ps.toList.map (·.2)).map ρ) []) (bs : List Nat) :
  ∃ o' s w' R', out = ⟨.undef, match Nat.beq len 1 with | true => .row o' s len | false => .grow o' s len⟩ /\ (Instr.buildSlice t len (ps.map fun (i, x) => (i, ρ x))).run P w = .ok (.slice (some ⟨w.heap.size, 0, none⟩) len len) w' /\ Keep w R w' R' bs /\ RepObj w' R' N o' w.heap.size [] ∧
   (0 < s /\ len <= capMax) /\ w.heap.size < w'.heap.size /\ len * s = rowSize w' w.heap.size := by
 unfold aBuildRow at h
 split at h
 ·rename_i i hel
  obtain ⟨e, hu, hty⟩ := elemOf_ok hE hel
  split at h
  ·rename_i hc
   obtain ⟨hs0, h0', hsm, hvl⟩ := hc
   split at h
   ·rename_i ds hds
    split at h
    ·rename_i hdl0
     obtain ⟨hdl, hbl⟩ := hdl0
     simp at h
     subst h
     obtain ⟨⟨ie, k1, k2, k3, k4, k5⟩, _⟩ := hE.ty e i hty
     have hlen := hr.length
     unfold parts at hds
     obtain ⟨f1, f2, f3, f4, f5⟩ := sliceParts_vals (by rw [List.length_map]; exact hvl.symm) hr hds
     generalize hvs : (ps.toList.map (·.2)).map ρ = vs at *
     have hcps : (ps.map fun (i, x) => (i, ρ x)).toList = (vs.zipIdx 0).map fun x => (x.2, x.1) := by
      apply List.ext_getElem?
      intro k
      have g1 : (ps.toList.map (·.1))[k]? = (List.range' 0 vs.length)[k]? := by rw [f1]
      have g2 : ((ps.toList.map (·.2)).map ρ)[k]? = vs[k]? := by rw [hvs]
      simp only [Array.toList_map, List.getElem?_map, List.getElem?_zipIdx] at g1 g2 ⊢
      cases hk : ps.toList[k]? with
      | none =>
       rw [hk] at g2
       simp at g2
       have : vs[k]? = none := by simpa using g2
       simp [this]
      | some q =>
       rw [hk] at g1 g2
       simp at g1 g2
       have hkl : k < vs.length := by
        rcases Nat.lt_or_ge k vs.length with h' | h'
        ·exact h'
        rw [List.getElem?_eq_none h'] at g2; simp at g2
       rw [List.getElem?_range' hkl] at g1
       simp at g1
       rw [← g2]
       simp [g1]
     have h0 : len ≠ 0 := by omega
     have hfill := Great.fill_whole (s := i.size) hs0 vs ((Array.range (len * ie.size)).map (i.zero.cells[· % i.zero.cells.size]!)) f4 (by rw [k2]; simp; rw [← f5, hdl])
     have hrun := run_buildSlice w t e len (ps.map fun (i, x) => (i, ρ x)) _ ie i.zero hu k1 k4 (by rw [k2]; omega) (by rw [k2]; exact Nat.mul_ne_zero h0 (by omega)) (by rw [hcps, k2]; rw [k2] at hfill; exact hfill)
     let R' : Own := fun b off => b = w.heap.size ∨ R b off
     have hst : ∀ b off, b < w.heap.size -> (R' b off ↔ R b off) := fun b off hb => ⟨fun h => by rcases h with h | h; exact absurd h (by omega); exact h, fun h => .inr h⟩
     have hk := fun bs => keep_alloc (w := w) (R := R) (.cells (vs.flatMap fun v => v.cells.toList).toArray e) hst bs
     have hh : (w.alloc (.cells (vs.flatMap fun v => v.cells.toList).toArray e)).heap[w.heap.size]? = some (.cells (vs.flatMap fun v => v.cells.toList).toArray e (0, 0)) := heap_alloc_new w _
     have hcl := repCs_length f2
     rw [flat_length f3] at hcl
     refine ⟨_, _, _, R', rfl, hrun, hk bs, ⟨_, e, 0, hh, ?_, fun j _ => .inl rfl, fun hb => by rw [hbl] at hb; simp at hb⟩, ⟨hs0, by have : len * 1 <= len * i.size := Nat.mul_le_mul_left _ hs0; unfold capMax; omega⟩, lt_of_heap hh, ?_⟩
     ·have := (repVs_dats (N := N) f2).keep (hk [])
      simpa using this
     rw [rowSize_of hh]; simp only [List.size_toArray]; rw [hcl, hdl]
    simp at h
   simp at h
  simp at h
 simp at h
/-! #### Append -/
theorem run_storeRow (g off : Nat) (e : TypeId) (news : List Value) (cur : Array Value) (hg : w.heap[g]? = some (.cells cur e (0, 0))) (hfit : off + news.length <= cur.size) (h1 : ∀ u ∈ news, u.oneCell' = true) :
  (storeCells ⟨g, off, none⟩ news).run P w = .ok () (w.setRow g (cur.toList.take off ++ news ++ cur.toList.drop (off + news.length)).toArray) := by
 have hst := run_storeCells_at P g off e news 0 cur w hg (by simpa using hfit) h1
 simpa using hst
theorem step_setRow {g : Nat} {cur : Array Value} {t : TypeId} (hg : w.heap[g]? = some (.cells cur t (0, 0))) (arr : Array Value) (hsz : arr.size = cur.size) {R' : Own}
  (hR : ∀ b off, R' b off -> R b off) (hR2 : ∀ b off, b ≠ g -> (R b off -> R' b off)) (hc : ∀ off, ¬ R g off -> arr[off]? = cur[off]?) (hown : ∃ off, R g off) (bs : List Nat) (hb : g ∉ bs) :
  Keep w R (w.setRow g arr) R' bs where
 step :=
  {os := rfl
   tape := rfl
   output := rfl
   size := by simp
   block := fun b hb hnR => by
    have hne : b ≠ g := fun e => by obtain ⟨o, ho⟩ := hown; exact hnR o (e ▸ ho)
    exact ⟨setRow_other w g b _ hne, fun off h' => hnR off (hR _ _ h')⟩
   cell := fun b off hb hnR => by
    refine ⟨fun h' => hnR (hR _ _ h'), ?_⟩
    by_cases hne : b = g
    ·subst hne
     rw [cell_of_row _ b off arr t (0, 0) (setRow_heap w b cur _ t _ hg), cell_of_row w b off cur t (0, 0) hg]
     exact hc off hnR
    exact World.cell?_of_block (a := ⟨b, off, none⟩) (setRow_other w g b _ hne)
   sizes := fun b _ => by
    by_cases hne : b = g
    ·subst hne
     rw [rowSize_of (setRow_heap w b cur _ t _ hg), rowSize_of hg, hsz]
    exact rowSize_same (setRow_other w g b _ hne) }
 same := fun b hbs _ => by
  have hne : b ≠ g := fun e => hb (e ▸ hbs)
  exact ⟨setRow_other w g b _ hne, fun off h' => hR2 b off hne h'⟩
theorem keep_drew_alloc (o : Obj) {R' : Own} (h : ∀ b off, b < w.heap.size -> (R' b off ↔ R b off)) (bs : List Nat) : Keep w R (w.drew.alloc o) R' bs := by
 have k := keep_alloc (w := w.drew) (R := R) o h bs
 exact ⟨⟨k.step.os, k.step.tape, k.step.output, k.step.size, k.step.block, k.step.cell, k.step.sizes⟩, k.same⟩
theorem run_append_none (t ty e : TypeId) (i : TypeInfo) (ht : P.underlying t = some (.slice e)) (hi : P.info? e = some i) (base a : Option Addr) (n cap c : Nat) (h : n <= cap) :
  (Builtin.append_ #[t, t] ty #[.slice base n cap, .slice a 0 c]).run P w = .ok (.slice base n cap) w := by
 cases base <;> cases a <;> simp [Builtin.append_, run_und ht, sizeOf, typeInfo, hi, Builtin.lenOf, h, Builtin.firstCells, Go.loadCells, loadCellsFrom, storeCells]
theorem run_append_room' (t ty e e' : TypeId) (i : TypeInfo) (ht : P.underlying t = some (.slice e)) (hi : P.info? e = some i)
  (g sLen sCap : Nat) (cur : Array Value) (hg : w.heap[g]? = some (.cells cur e' (0, 0)))
  (a : Addr) (m c : Nat) (news : List Value) (hl : news.length = m * i.size) (hnews : ∀ j u, news[j]? = some u -> w.cell? (a.add j) = some u) (h1 : ∀ u ∈ news, u.oneCell' = true)
  (hroom : sLen + m <= sCap) (hfit : sLen * i.size + news.length <= cur.size) :
  (Builtin.append_ #[t, t] ty #[.slice (some ⟨g, 0, none⟩) sLen sCap, .slice (some a) m c]).run P w =
   .ok (.slice (some ⟨g, 0, none⟩) (sLen + m) sCap) (w.setRow g (cur.toList.take (sLen * i.size) ++ news ++ cur.toList.drop (sLen * i.size + news.length)).toArray) := by
 have hf := run_firstCells_some (P := P) w i.size m a m c news hl hnews
 have hst := run_storeCells_at P g (sLen * i.size) e' news 0 cur w hg (by simpa using hfit) h1
 simp only [Nat.add_zero] at hst
 simp [Builtin.append_, run_und ht, sizeOf, typeInfo, hi, Builtin.lenOf, hroom, hf, Addr.add_lit, hst]
theorem repCs_one : ∀ {vs : List Value} {cs : List Dat}, RepCs w R vs cs -> ∀ v ∈ vs, v.oneCell' = true
 | [], [], _, v, hv => by simp at hv
 | u :: vs, c :: cs, h, v, hv => by
  rcases List.mem_cons.1 hv with rfl | hv
  ·exact (repC_cells h.1).2
  exact repCs_one h.2 v hv
 | [], _ :: _, h, _, _ => h.elim
 | _ :: _, [], h, _, _ => h.elim
theorem repOwn_inv {v : Value} {es : List Dat} {bs : List Nat} (h : RepOwn w R v es bs) : (v = .slice none 0 0 /\ es = [] /\ bs = []) ∨
  ∃ b cap s vs t, v = .slice (some ⟨b, 0, none⟩) es.length cap /\ bs = [b] /\ w.heap[b]? = some (.cells vs t (0, 0)) /\ 0 < s /\ (∀ e ∈ es, e.cells.length = s) /\ es.length <= cap /\ (es = [] -> cap = 0) /\ cap * s <= vs.size ∧
   RepC w R (.slice (some ⟨b, 0, none⟩) es.length cap) (.slice es) /\ (∀ x, es.length * s <= x -> x < cap * s -> R b x) /\ (isBytes es = true -> t = byteId /\ ∀ x, vs.size <= x -> R b x) := by
 cases h with
 | nil => exact .inl ⟨rfl, rfl, rfl⟩
 | row b cap s es vs t h1 h2 h3 h4 h5 h6 h7 h8 h9 => exact .inr ⟨b, cap, s, vs, t, rfl, rfl, h1, h2, h3, h4, h5, h6, h7, h8, h9⟩
theorem appendTo_spec {i : TI} {es r : List Dat} {x : AVal} (h : appendTo Prims.std i es x = some r) :
  ∃ ds, x = .dat (.slice ds) /\ 0 < i.size /\ (∀ d ∈ ds, d.cells.length = i.size) /\ (∀ d ∈ es, d.cells.length = i.size) /\ 0 < i.bytes /\ (es.length + ds.length) * i.bytes <= 140737488355328 /\ es.length + ds.length <= lim /\ r = es ++ ds := by
 unfold appendTo at h
 split at h
 ·rename_i ds
  simp only [Prims.std] at h
  split at h
  ·simp at h
  rename_i hn
  split at h
  ·rename_i hc
   simp at h
   exact ⟨_, rfl, by rcases Nat.eq_zero_or_pos i.size with h0 | h0; exact absurd h0 hn; exact h0, hc.1, hc.2.1, hc.2.2.1, hc.2.2.2.1, hc.2.2.2.2, h.symm⟩
  simp at h
 simp at h
/-- The new array of an append that grows. -/
theorem own_grown {e : TypeId} {s : Nat} (hs0 : 0 < s) {es : List Dat} (hs : ∀ d ∈ es, d.cells.length = s) {cells : List Value} (hr : RepCs w R cells (es.flatMap Dat.cells)) (hne : es ≠ []) (hlim : es.length <= lim)
  (cap : Nat) (hcap : es.length <= cap) (rest : Array Value) (hrest : rest.size = (cap - es.length) * s) (hty : isBytes es = true -> e = byteId) (bs : List Nat) :
  ∃ R', Keep w R (w.drew.alloc (.cells (cells.toArray ++ rest) e)) R' bs /\ RepV (w.drew.alloc (.cells (cells.toArray ++ rest) e)) R' N (.own es) (.slice (some ⟨w.heap.size, 0, none⟩) es.length cap) [w.heap.size] := by
 have hl := repCs_length hr
 rw [flat_length hs] at hl
 let R' : Own := fun b off => (b ≠ w.heap.size /\ R b off) ∨ (b = w.heap.size /\ es.length * s <= off)
 have hst : ∀ b off, b < w.heap.size -> (R' b off ↔ R b off) := fun b off hb =>
  ⟨fun h => by rcases h with h | h; exact h.2; exact absurd h.1 (by omega), fun h => .inl ⟨by omega, h⟩⟩
 have hk := keep_drew_alloc (w := w) (R := R) (.cells (cells.toArray ++ rest) e) hst bs
 refine ⟨R', hk, own_new (s := s) (heap_alloc_new w.drew _) hs0 hs (hr.step hk.step) (fun j u hj => ?_) (fun j hj h' => ?_) (fun j h1 _ => .inr ⟨rfl, h1⟩) hcap (fun h' => absurd h' hne) ?_ hlim hty⟩
 ·have hjl : j < cells.length := by
   rcases Nat.lt_or_ge j cells.length with h' | h'
   ·exact h'
   rw [List.getElem?_eq_none h'] at hj; simp at hj
  rw [Array.getElem?_append_left (by simpa using hjl)]
  simpa using hj
 ·rcases h' with h' | h'
  ·exact h'.1 rfl
  omega
 simp only [Array.size_append, List.size_toArray, hrest, hl]
 rw [← Nat.add_mul]
 exact Nat.mul_le_mul_right _ (by omega)
theorem run_append_none_src (t t2 ty e : TypeId) (i : TypeInfo) (ht : P.underlying t = some (.slice e)) (hi : P.info? e = some i) (base : Option Addr) (n cap : Nat) (h : n <= cap) {u : Value} (hs : Src P i.size t2 u 0 [] w) :
  (Builtin.append_ #[t, t2] ty #[.slice base n cap, u]).run P w = .ok (.slice base n cap) w := by
 have hc := hs.cells
 rcases hs.kind with ⟨e', hk⟩ | hk <;> cases base <;> simp [Builtin.append_, run_und ht, run_und hk, sizeOf, typeInfo, hi, hs.len, h, hc, storeCells]
theorem run_append_room_src' (t t2 ty e e' : TypeId) (i : TypeInfo) (ht : P.underlying t = some (.slice e)) (hi : P.info? e = some i)
  (g sLen sCap : Nat) (cur : Array Value) (hg : w.heap[g]? = some (.cells cur e' (0, 0)))
  {u : Value} (m : Nat) (news : List Value) (hs : Src P i.size t2 u m news w)
  (hroom : sLen + m <= sCap) (hfit : sLen * i.size + news.length <= cur.size) :
  (Builtin.append_ #[t, t2] ty #[.slice (some ⟨g, 0, none⟩) sLen sCap, u]).run P w =
   .ok (.slice (some ⟨g, 0, none⟩) (sLen + m) sCap) (w.setRow g (cur.toList.take (sLen * i.size) ++ news ++ cur.toList.drop (sLen * i.size + news.length)).toArray) := by
 have hst := run_storeCells_at P g (sLen * i.size) e' news 0 cur w hg (by simpa using hfit) hs.one
 simp only [Nat.add_zero] at hst
 rcases hs.kind with ⟨e2, hk⟩ | hk <;> simp [Builtin.append_, run_und ht, run_und hk, sizeOf, typeInfo, hi, hs.len, hroom, hs.cells, Addr.add_lit, hst]
/-- An append of what may stand behind, whatever it is. -/
theorem sound_append_src (hE : E.Ok P) {t t2 ty : TypeId} {i : TI} {es ds : List Dat} {v u : Value} {news : List Value} {bsM : List Nat} (hel : elemOf E t = some i) (hs0 : 0 < i.size) (hds : ∀ d ∈ ds, d.cells.length = i.size) (hes : ∀ d ∈ es, d.cells.length = i.size)
  (hbytes : (es.length + ds.length) * i.bytes <= 140737488355328) (hlim : es.length + ds.length <= lim) (ha : RepV w R N (.own es) v bsM) (hnr : RepCs w R news (ds.flatMap Dat.cells)) (hsrc : Src P i.size t2 u ds.length news w) (hbo : byteOk E t (es ++ ds) = true)
  (bs : List Nat) (hd : ∀ b ∈ bsM, b ∉ bs) :
  ∃ cv w' R' bsV, (Builtin.append_ #[t, t2] ty #[v, u]).run P w = .ok cv w' /\ Keep w R w' R' bs /\ RepV w' R' N (.own (es ++ ds)) cv bsV /\ bsV.Nodup /\ (∀ b ∈ bsV, b ∈ bsM ∨ w.heap.size <= b) := by
 obtain ⟨e, hu, hty⟩ := elemOf_ok hE hel
 obtain ⟨⟨ie, k1, k2, k3, k4, k5⟩, _⟩ := hE.ty e i hty
 have hsrc' : Src P ie.size t2 u ds.length news w := by rw [k2]; exact hsrc
 have hown := repV_own_inv ha
 have hnl := repCs_length hnr
 rw [flat_length hds] at hnl
 by_cases hne : ds = []
 ·subst hne
  have hn0 : news = [] := by cases news with | nil => rfl | cons _ _ => simp at hnl
  subst hn0
  have hv0 : ∃ base cap, v = .slice base es.length cap /\ es.length <= cap := by
   cases hown with
   | nil => exact ⟨_, _, rfl, Nat.le_refl _⟩
   | row b cap => exact ⟨_, _, rfl, by assumption⟩
  obtain ⟨base, cap, rfl, hcap⟩ := hv0
  refine ⟨_, w, R, bsM, run_append_none_src t t2 ty e ie hu k1 base _ cap hcap hsrc', keep_refl _, by simpa using ha, ?_, fun b hb => .inl hb⟩
  rcases repOwn_inv hown with ⟨_, _, rfl⟩ | ⟨b, _, _, _, _, _, rfl, _⟩ <;> simp
 have hdl : 0 < ds.length := by cases ds with | nil => exact absurd rfl hne | cons _ _ => simp
 have h63 : es.length + ds.length <= 9223372036854775807 := by unfold lim at hlim; omega
 have hfl : ∀ d ∈ es ++ ds, d.cells.length = i.size := fun d hd => by rcases List.mem_append.1 hd with h' | h'; exact hes d h'; exact hds d h'
 have hzc : ∀ (z : Array Value) (n : Nat), (Builtin.zeroCells z n).size = n * z.size := fun z n => size_zeroCells z n
 rcases repOwn_inv hown with ⟨rfl, rfl, rfl⟩ | ⟨b, cap, s, vs, t', rfl, rfl, hblk, hs0', hs, hcap, he, hin, hrep, hsp, hty'⟩
 ·have hrun := run_append_grow_src (P := P) w t t2 ty e ie i.zero hu k1 k4 none 0 0 [] (by simp [Builtin.firstCells]) u ds.length news hsrc' (by omega) (by simp at h63 ⊢; omega) (growslice_fits (by omega) (by rw [k3]; simpa using hbytes))
  have hge := grownCap_ge w ds.length 0 e
  obtain ⟨R', g1, g2⟩ := own_grown (N := N) (e := e) hs0 hds hnr hne (by simpa using hlim) (grownCap w ds.length 0 e) hge (Builtin.zeroCells i.zero.cells (grownCap w ds.length 0 e - ds.length)) (by rw [hzc, k5]) (byteOk_spec hE hu (by simpa using hbo)) bs
  refine ⟨_, _, R', [w.heap.size], hrun, ?_, ?_, by simp, by simp⟩
  ·simpa using g1
  simpa using g2
 by_cases hes0 : es = []
 ·subst hes0
  have hc0 := he rfl
  subst hc0
  have hrun := run_append_grow_src (P := P) w t t2 ty e ie i.zero hu k1 k4 (some ⟨b, 0, none⟩) 0 0 [] (by simp [Builtin.firstCells, Go.loadCells, loadCellsFrom]) u ds.length news hsrc' (by omega) (by simp at h63 ⊢; omega) (growslice_fits (by omega) (by rw [k3]; simpa using hbytes))
  have hge := grownCap_ge w ds.length 0 e
  obtain ⟨R', g1, g2⟩ := own_grown (N := N) (e := e) hs0 hds hnr hne (by simpa using hlim) (grownCap w ds.length 0 e) hge (Builtin.zeroCells i.zero.cells (grownCap w ds.length 0 e - ds.length)) (by rw [hzc, k5]) (byteOk_spec hE hu (by simpa using hbo)) bs
  refine ⟨_, _, R', [w.heap.size], hrun, ?_, ?_, by simp, by simp⟩
  ·simpa using g1
  simpa using g2
 obtain rfl : s = i.size := by
  cases es with
  | nil => exact absurd rfl hes0
  | cons d es => rw [← hs d (by simp), hes d (by simp)]
 obtain ⟨b', off', cap', olds, hv', _, hor, hoc⟩ := repC_flat hrep hes0 hes
 simp at hv'
 obtain ⟨⟨rfl, rfl⟩, rfl⟩ := hv'
 have hol := repCs_length hor
 rw [flat_length hes] at hol
 by_cases hroom : es.length + ds.length <= cap
 ·
  have hmul : (es.length + ds.length) * i.size <= cap * i.size := Nat.mul_le_mul_right _ hroom
  have hmul' : (es.length + ds.length) * i.size = es.length * i.size + ds.length * i.size := Nat.add_mul ..
  have hdpos : 0 < ds.length * i.size := Nat.mul_pos hdl hs0
  have hrun := run_append_room_src' (P := P) (w := w) t t2 ty e t' ie hu k1 b es.length cap vs hblk ds.length news hsrc' hroom (by rw [k2, hnl]; omega)
  rw [k2] at hrun
  generalize harr : (vs.toList.take (es.length * i.size) ++ news ++ vs.toList.drop (es.length * i.size + news.length)).toArray = arr at hrun
  let R' : Own := fun c x => R c x /\ ¬ (c = b /\ es.length * i.size <= x /\ x < (es.length + ds.length) * i.size)
  have hget : ∀ k : Nat, arr[k]? = if k < es.length * i.size then vs[k]? else if k < es.length * i.size + news.length then news[k - es.length * i.size]? else vs[k]? := by
   intro k
   rw [← harr]
   simp only [List.getElem?_toArray]
   have hlt : (vs.toList.take (es.length * i.size)).length = es.length * i.size := by simp; omega
   by_cases q1 : k < es.length * i.size
   ·rw [if_pos q1, List.append_assoc, List.getElem?_append_left (by omega), List.getElem?_take_of_lt q1]; simp
   rw [if_neg q1]
   by_cases q2 : k < es.length * i.size + news.length
   ·rw [if_pos q2, List.getElem?_append_left (by simp; omega), List.getElem?_append_right (by omega), hlt]
   rw [if_neg q2, List.getElem?_append_right (by simp; omega), List.getElem?_drop]
   simp only [List.length_append, hlt, Array.getElem?_toList]
   congr 1
   omega
  have hkeep := step_setRow (R := R) (R' := R') hblk arr (by rw [← harr]; simp; omega) (fun c x h => h.1) (fun c x hc h => ⟨h, fun h' => hc h'.1⟩) (fun off hnR => by
   rw [hget]
   by_cases q1 : off < es.length * i.size
   ·rw [if_pos q1]
   rw [if_neg q1]
   by_cases q2 : off < es.length * i.size + news.length
   ·exact absurd (hsp off (by omega) (by omega)) hnR
   rw [if_neg q2]) ⟨es.length * i.size, hsp _ (Nat.le_refl _) (by omega)⟩ bs (hd b (by simp))
  have hasz : arr.size = vs.size := by rw [← harr]; simp; omega
  have hblk' : (w.setRow b arr).heap[b]? = some (.cells arr t' (0, 0)) := setRow_heap w b vs _ t' _ hblk
  have hcs : RepCs w R (olds ++ news) ((es ++ ds).flatMap Dat.cells) := by rw [List.flatMap_append]; exact repCs_append hor hnr
  refine ⟨_, _, R', [b], hrun, hkeep, ?_, by simp, fun c hc => .inl hc⟩
  rw [show es.length + ds.length = (es ++ ds).length by simp]
  refine own_newW (s := i.size) hblk' hs0 hfl (hcs.step hkeep.step) (fun j z hj => ?_) (fun j hj h' => h'.2 ⟨rfl, ?_, ?_⟩) (fun j h1 h2 => ⟨hsp j (by simp at h1; omega) h2, fun h' => by simp at h1; omega⟩) (by simpa using hroom) (fun h' => by simp at h'; exact absurd h'.1 hes0) ?_ (by simpa using hlim) (fun hb => ⟨(hty' (isBytes_left hb hes0)).1, fun x hx => ⟨(hty' (isBytes_left hb hes0)).2 x (by rw [← hasz]; exact hx), fun h' => by rw [hasz] at hx; have := h'.2.2; omega⟩⟩)
  ·rw [hget]
   by_cases q1 : j < es.length * i.size
   ·rw [if_pos q1]
    rw [List.getElem?_append_left (by omega)] at hj
    have := (hoc j z hj).1
    rw [cell_of_row w b (0 + j) vs t' (0, 0) hblk] at this
    simpa using this
   rw [if_neg q1]
   rw [List.getElem?_append_right (by omega), hol] at hj
   have hjl : j - es.length * i.size < news.length := by
    rcases Nat.lt_or_ge (j - es.length * i.size) news.length with h' | h'
    ·exact h'
    rw [List.getElem?_eq_none h'] at hj; simp at hj
   rw [if_pos (by omega)]
   exact hj
  ·have hnR := h'.1
   rcases Nat.lt_or_ge j (es.length * i.size) with q | q
   ·exfalso
    have hz : olds[j]? = some olds[j] := by simp
    exact (hoc j _ hz).2 (by simpa using hnR)
   exact q
  ·simpa using hj
  have : arr.size = vs.size := by
   rw [← harr]; simp; omega
  rw [this]; exact hin
 have holds : ∀ (j : Nat) z, olds[j]? = some z -> w.cell? ((⟨b, 0, none⟩ : Addr).add j) = some z := fun j z hj => by rw [add_plain]; exact (hoc j z hj).1
 have hrun := run_append_grow_src (P := P) w t t2 ty e ie i.zero hu k1 k4 (some ⟨b, 0, none⟩) es.length cap olds (run_firstCells_some w.drew ie.size es.length ⟨b, 0, none⟩ es.length cap olds (by rw [k2]; exact hol) (by simpa using holds)) u ds.length news hsrc' (by omega) (by simp at h63 ⊢; omega) (growslice_fits (by omega) (by rw [k3]; exact hbytes))
 have hge := grownCap_ge w (es.length + ds.length) cap e
 have hcs : RepCs w R (olds ++ news) ((es ++ ds).flatMap Dat.cells) := by rw [List.flatMap_append]; exact repCs_append hor hnr
 obtain ⟨R', g1, g2⟩ := own_grown (N := N) (e := e) hs0 hfl hcs (by simp [hne]) (by simpa using hlim) (grownCap w (es.length + ds.length) cap e) (by simpa using hge) (Builtin.zeroCells i.zero.cells (grownCap w (es.length + ds.length) cap e - (es.length + ds.length))) (by rw [hzc, k5]; simp) (byteOk_spec hE hu hbo) bs
 refine ⟨_, _, R', [w.heap.size], hrun, ?_, ?_, by simp, by simp⟩
 ·simpa using g1
 simpa using g2
theorem sound_append (hE : E.Ok P) {t ty : TypeId} {i : TI} {es r : List Dat} {x : AVal} {v u : Value} {bsM : List Nat} (hel : elemOf E t = some i) (hap : appendTo E.pr i es x = some r) (hbo : byteOk E t r = true) (ha : RepV w R N (.own es) v bsM) (hx : RepV w R N x u [])
  (bs : List Nat) (hd : ∀ b ∈ bsM, b ∉ bs) :
  ∃ cv w' R' bsV, (Builtin.append_ #[t, t] ty #[v, u]).run P w = .ok cv w' /\ Keep w R w' R' bs /\ RepV w' R' N (.own r) cv bsV /\ bsV.Nodup /\ (∀ b ∈ bsV, b ∈ bsM ∨ w.heap.size <= b) := by
 obtain ⟨e, hu, _⟩ := elemOf_ok hE hel
 obtain ⟨ds, rfl, hs0, hds, hes, hby, hbytes, hlim, rfl⟩ := appendTo_spec (by rw [hE.std] at hap; exact hap)
 obtain ⟨_, hxr⟩ := repV_slice_inv hx
 by_cases hne : ds = []
 ·subst hne
  have hu0 : ∃ a' c, u = .slice a' 0 c := by cases hxr with | nil a c => exact ⟨a, c, rfl⟩ | slice b off cap s es vs => exact ⟨_, _, rfl⟩
  obtain ⟨a', c, rfl⟩ := hu0
  refine sound_append_src (news := []) hE hel hs0 hds hes hbytes hlim ha (by simp [RepCs]) ?_ hbo bs hd
  cases a' with
  | none => exact Src.ofNil w hu c
  | some a' => exact Src.ofSlice w hu a' 0 c [] (by simp) (by simp) (by simp)
 obtain ⟨b2, off2, cap2, news, rfl, _, hnr, hnc⟩ := repC_flat hxr hne hds
 have hnl := repCs_length hnr
 rw [flat_length hds] at hnl
 have hnews : ∀ (j : Nat) u, news[j]? = some u -> w.cell? ((⟨b2, off2, none⟩ : Addr).add j) = some u := fun j u hj => by rw [add_plain]; exact (hnc j u hj).1
 exact sound_append_src hE hel hs0 hds hes hbytes hlim ha hnr (Src.ofSlice w hu ⟨b2, off2, none⟩ ds.length cap2 news hnl hnews (repCs_one hnr)) hbo bs hd
/-! #### The bytes of a string behind a row of bytes -/
theorem repCs_bytes : ∀ l : List UInt8, RepCs w R (l.map fun b => Value.int .u8 b.toNat) ((byteDs l).flatMap Dat.cells)
 | [] => by simp [RepCs, byteDs]
 | b :: r => by
  simp only [byteDs, List.map_cons, List.flatMap_cons]
  refine ⟨.flat ?_, repCs_bytes r⟩
  have := b.toNat_lt
  simp only [isFlat, Bool.and_eq_true, decide_eq_true_eq]
  have h1 : IntKind.u8.min = 0 := by decide
  have h2 : IntKind.u8.max = 255 := by decide
  rw [h1, h2]
  omega
theorem byteDs_length : ∀ l : List UInt8, (byteDs l).length = l.length
 | [] => rfl
 | b :: r => by simp [byteDs, byteDs_length r]
theorem sound_append_str (hE : E.Ok P) {t t2 ty : TypeId} {es : List Dat} {s : ByteArray} {v u : Value} {out : Out} {bsM : List Nat} (h : aAppendStr E t t2 [.own es, .dat (.flat (.string s))] = some out) (ha : RepV w R N (.own es) v bsM) (hx : RepV w R N (.dat (.flat (.string s))) u [])
  (bs : List Nat) (hd : ∀ b ∈ bsM, b ∉ bs) :
  ∃ cv w' R' bsV, (Builtin.append_ #[t, t2] ty #[v, u]).run P w = .ok cv w' /\ Keep w R w' R' bs /\ RepV w' R' N out.val cv bsV /\ out.eff = .keep /\ bsV.Nodup /\ (∀ b ∈ bsV, b ∈ bsM ∨ w.heap.size <= b) := by
 unfold aAppendStr at h
 simp only at h
 split at h
 ·rename_i i hd2 hel
  split at h
  ·rename_i hsz
   have hsz1 : i.size = 1 := by simpa using hsz
   split at h
   ·rename_i r hap
    split at h
    rotate_left
    ·simp at h
    rename_i hbo
    simp at h
    subst h
    obtain ⟨ds, hds0, hs0, hds, hes, hby, hbytes, hlim, rfl⟩ := appendTo_spec (by rw [hE.std] at hap; exact hap)
    simp at hds0
    subst hds0
    obtain ⟨_, rfl, _⟩ := repV_flat_inv hx
    have hlen : (byteDs s.data.toList).length = s.size := by rw [byteDs_length, Array.length_toList]; rfl
    have hsrc : Src P i.size t2 (.string s) (byteDs s.data.toList).length (s.data.toList.map fun b => Value.int .u8 b.toNat) w := by
     rw [hsz1, hlen]; exact Src.ofString w (hE.desc_string hd2) s
    obtain ⟨cv, w', R', bsV, h1, h2, h3, h4, h5⟩ := sound_append_src (ty := ty) hE hel hs0 hds hes hbytes hlim ha (repCs_bytes _) hsrc hbo bs hd
    exact ⟨cv, w', R', bsV, h1, h2, h3, rfl, h4, h5⟩
   simp at h
  simp at h
 simp at h
end
end Go.Tp

namespace Go.Tp
section
variable {P : Program} {E : TEnv} {w : World} {R : Own} {N : Name -> Option Nat}
theorem putL_length {α : Type} : ∀ (off : Nat) (ns l : List α), (putL off ns l).length = l.length
 | off, [], l => by cases off <;> cases l <;> rfl
 | off, n :: ns, [] => by cases off <;> rfl
 | 0, n :: ns, a :: l => by simp [putL, putL_length 0 ns l]
 | off + 1, n :: ns, a :: l => by simp [putL, putL_length off (n :: ns) l]
theorem splice_putL (off : Nat) (ns l : List Value) (h : off + ns.length <= l.length) : l.take off ++ ns ++ l.drop (off + ns.length) = putL off ns l := by
 apply List.ext_getElem?
 intro k
 rw [putL_get]
 have hl : (l.take off).length = off := by simp; omega
 by_cases q1 : k < off
 ·rw [if_neg (by omega), List.append_assoc, List.getElem?_append_left (by omega), List.getElem?_take_of_lt q1]
 by_cases q2 : k < off + ns.length
 ·rw [if_pos (by omega), List.getElem?_append_left (by simp; omega), List.getElem?_append_right (by omega), hl]
 rw [if_neg (by omega), List.getElem?_append_right (by simp; omega), List.getElem?_drop]
 simp only [List.length_append, hl]
 congr 1
 omega
theorem putL_pad {off : Nat} {ns cs ps : List AVal} (h : off + ns.length <= cs.length) : putL off ns (cs ++ ps) = putL off ns cs ++ ps := by
 apply List.ext_getElem?
 intro j
 rw [putL_get, List.getElem?_append, List.getElem?_append, putL_get, putL_length]
 simp only [List.length_append]
 by_cases q : off <= j /\ j < off + ns.length /\ j < cs.length
 ·rw [if_pos ⟨q.1, q.2.1, by omega⟩, if_pos (by omega), if_pos q]
 rw [if_neg (by omega)]
 split
 ·rfl
 rfl
theorem bldSh_taken {off : Nat} {es es' : List Dat} {cs : List AVal} (hes : cs[off]? = some (.own es')) (h : bldSh (putL off [.dat (.slice es)] cs) = true) : bldSh cs = true := by
 obtain ⟨p, q, e, hp, hq⟩ := bldSh_iff.1 h
 have hl := congrArg List.length e
 rw [putL_length] at hl
 match cs, off, hl with
 | [a, b], 0, _ =>
  simp [putL] at e
  rw [← e.1] at hp
  simp [isP] at hp
 | [a, b], 1, _ =>
  simp [putL] at e hes
  subst hes
  exact bldSh_iff.2 ⟨a, _, rfl, by rw [e.1]; exact hp, rfl⟩
 | [a, b], off + 2, _ => simp at hes
theorem sound_store (hE : E.Ok P) {t : TypeId} {n : Name} {off b : Nat} {v : AVal} {x : Value} {cs : List AVal} {out : Out} (h : aStore E t [.ptr n off, v] (some (.cells cs)) = some out)
  {b1 bsV : List Nat} (hob : RepObj w R N (.cells cs) b b1) (hv : RepV w R N v x bsV) (bs : List Nat) (hb : b ∉ bs) (hb1 : b ∉ b1) (hbV : b ∉ bsV) :
  out.val = .undef /\ ∃ cs', out.eff = .set (.cells cs') /\ ∃ w' pre mid post, (Instr.storeAt t (.pointer (some ⟨b, off, none⟩)) x).run P w = .ok () w' /\ Keep w R w' R bs /\ b1 = pre ++ mid ++ post /\ RepObj w' R N (.cells cs') b (pre ++ bsV ++ post) := by
 simp only [aStore] at h
 split at h
 ·rename_i i cs0 hty heq
  simp at heq
  subst heq
  split at h
  ·rename_i hc
   obtain ⟨hlen, hfit, hok, hpos, hbld⟩ := hc
   simp at h
   subst h
   refine ⟨rfl, _, rfl, ?_⟩
   obtain ⟨vs, elem, sp, hblk, hr, hR, hsh⟩ := hob
   have hcells := acells_rep hv hok
   have hcl := hcells.length
   have hvl := hr.length
   simp only [List.length_append, List.length_replicate] at hvl
   have hone := okCells_one hcells hok
   have hfit' : off + x.cells.toList.length <= vs.size := by simp at hvl hcl ⊢; omega
   have hrun := run_storeRow (P := P) (w := w) b off elem x.cells.toList vs hblk hfit' hone
   rw [splice_putL off x.cells.toList vs.toList (by simpa using hfit')] at hrun
   have hsz : (putL off x.cells.toList vs.toList).toArray.size = vs.size := by simp [putL_length]
   have hvpos : 0 < vs.size := by simp at hvl hcl; omega
   have hkeepB : ∀ bs : List Nat, b ∉ bs -> Keep w R (w.setRow b (putL off x.cells.toList vs.toList).toArray) R bs := fun bs hb =>
    step_setRow hblk _ hsz (fun _ _ h => h) (fun _ _ _ h => h) (fun o hnR => by
     have : ¬ o < vs.size := fun hlt => hnR (hR o hlt)
     rw [Array.getElem?_eq_none (by omega), Array.getElem?_eq_none (by omega)]) ⟨0, hR 0 hvpos⟩ bs hb
   obtain ⟨pre, mid, post, e, hput⟩ := repVs_putL off (ns := acells v) (us := x.cells.toList) hr (by simp; omega) hcl
   refine ⟨_, pre, mid, post, ?_, hkeepB bs hb, e, ?_⟩
   ·have : x.cells.size = i.size := by simp at hcl; omega
    simp [Instr.storeAt, Instr.sureAddr, storeVar, hE.run_size hty, this, hrun]
   refine ⟨(putL off x.cells.toList vs.toList).toArray, elem, sp, setRow_heap w b vs _ elem _ hblk, ?_, fun j hj => hR j (by omega), fun hb => hsh (by rw [hb] at hbld; simpa using hbld)⟩
   have hk1 := hkeepB (pre ++ post) (by intro h'; exact hb1 (by rw [e]; simp at h' ⊢; rcases h' with h' | h' <;> simp [h']))
   have hk2 := hkeepB bsV hbV
   rw [← putL_pad (by omega)]
   simpa using hput bsV _ _ hk1 (hcells.keep hk2)
  simp at h
 simp at h
/-- The writable cells, a new block among them. -/
def Own.more (R : Own) (n : Nat) : Own := fun b off => b = n ∨ R b off
theorem Own.more_iff {R : Own} {n b off : Nat} (hb : b < n) : (R.more n b off ↔ R b off) := ⟨fun h => by rcases h with h | h; omega; exact h, fun h => .inr h⟩
/-- A new object of cells. -/
theorem new_cells {cs : List AVal} {vs : Array Value} {bsV : List Nat} (hr : RepVs w R N cs vs.toList bsV) (elem : TypeId) (hsh : bldSh cs = true -> elem = bldId) (bs : List Nat) :
  Keep w R (w.alloc (.cells vs elem)) (R.more w.heap.size) bs /\ RepObj (w.alloc (.cells vs elem)) (R.more w.heap.size) N (.cells cs) w.heap.size bsV := by
 have hk := fun bs => keep_alloc (w := w) (R := R) (.cells vs elem) (R' := R.more w.heap.size) (fun b off hb => Own.more_iff hb) bs
 exact ⟨hk bs, vs, elem, 0, heap_alloc_new w _, by simpa using hr.keep (hk bsV), fun j _ => .inl rfl, fun h => ⟨hsh h, rfl⟩⟩
theorem borns_empty : Borns #[] 0 := ⟨by simp, by simp⟩
theorem borns_push {ents : Array MapEntry} {clock : Nat} (h : Borns ents clock) {k v : Value} : Borns (ents.push { key := k, val := v, born := clock }) (clock + 1) := by
 obtain ⟨h1, h2⟩ := h
 constructor
 ·intro x hx
  simp at hx
  rcases hx with hx | rfl
  ·have := h1 x (by simpa using hx); omega
  simp
 simp only [Array.toList_push, List.map_append, List.map_cons, List.map_nil, List.nodup_append]
 refine ⟨h2, by simp, ?_⟩
 intro a ha b hb e
 simp only [List.mem_map] at ha
 obtain ⟨x, hx, rfl⟩ := ha
 simp at hb
 subst hb
 have := h1 x hx
 omega
theorem map_modify_born (f : MapEntry -> MapEntry) (hf : ∀ e, (f e).born = e.born) : ∀ (l : List MapEntry) (i : Nat), (l.modify i f).map (·.born) = l.map (·.born)
 | [], i => by cases i <;> simp
 | e :: l, 0 => by simp [hf]
 | e :: l, i + 1 => by simpa using map_modify_born f hf l i
theorem borns_modify {ents : Array MapEntry} {clock : Nat} (h : Borns ents clock) (i : Nat) (f : MapEntry -> MapEntry) (hf : ∀ e, (f e).born = e.born) : Borns (ents.modify i f) clock := by
 obtain ⟨h1, h2⟩ := h
 have hm := map_modify_born f hf ents.toList i
 refine ⟨?_, by simpa [hm] using h2⟩
 intro x hx
 have hx' : x.born ∈ (ents.toList.modify i f).map (·.born) := List.mem_map.2 ⟨x, by simpa using hx, rfl⟩
 rw [hm] at hx'
 obtain ⟨y, hy, e⟩ := List.mem_map.1 hx'
 have := h1 y hy
 omega
theorem borns_erase {ents : Array MapEntry} {clock : Nat} (h : Borns ents clock) (i : Nat) : Borns (ents.eraseIdxIfInBounds i) clock := by
 obtain ⟨h1, h2⟩ := h
 have hs : (ents.eraseIdxIfInBounds i).toList.Sublist ents.toList := by
  simp only [Array.toList_eraseIdxIfInBounds]
  exact List.eraseIdx_sublist ents.toList i
 exact ⟨fun x hx => h1 x (hs.subset hx), h2.sublist (hs.map _)⟩
theorem new_map (bs : List Nat) :
  Keep w R (w.alloc (.map #[] 0)) (R.more w.heap.size) bs /\ RepObj (w.alloc (.map #[] 0)) (R.more w.heap.size) N (.map []) w.heap.size [] := by
 have hk := fun bs => keep_alloc (w := w) (R := R) (.map #[] 0) (R' := R.more w.heap.size) (fun b off hb => Own.more_iff hb) bs
 exact ⟨hk bs, rfl, .inl rfl, #[], 0, heap_alloc_new w _, rfl, borns_empty⟩
/-- A map's block set anew. -/
theorem keep_setMap {b clock clock' : Nat} {ents ents' : Array MapEntry} (hb : w.heap[b]? = some (.map ents clock)) (hR : R b 0) (bs : List Nat) (hbs : b ∉ bs) :
  Keep w R { w with heap := w.heap.setIfInBounds b (.map ents' clock') } R bs := by
 have hother : ∀ c, c ≠ b -> (w.heap.setIfInBounds b (.map ents' clock'))[c]? = w.heap[c]? := fun c hc => by simp [Array.getElem?_setIfInBounds_ne (Ne.symm hc)]
 refine ⟨⟨rfl, rfl, rfl, by simp, fun c hc hnR => ⟨hother c (fun e => hnR 0 (e ▸ hR)), hnR⟩, fun c off hc hnR => ⟨hnR, ?_⟩, fun c hc => ?_⟩, fun c hc _ => ⟨hother c (fun e => hbs (e ▸ hc)), fun _ h => h⟩⟩
 ·by_cases hcb : c = b
  ·subst hcb
   have h2 : (w.heap.setIfInBounds c (.map ents' clock'))[c]? = some (.map ents' clock') := by simp [lt_of_heap hb]
   simp only [World.cell?, hb, h2]
  exact World.cell?_of_block (a := ⟨c, off, none⟩) (hother c hcb)
 by_cases hcb : c = b
 ·subst hcb
  have h2 : (w.heap.setIfInBounds c (.map ents' clock'))[c]? = some (.map ents' clock') := by simp [lt_of_heap hb]
  simp only [rowSize, hb, h2]
 exact rowSize_same (hother c hcb)
theorem bytes_beq' (a b : ByteArray) : (a == b) = true ↔ a = b := by
 constructor
 ·intro h
  obtain ⟨a⟩ := a
  obtain ⟨b⟩ := b
  have : (a == b) = true := h
  rw [eq_of_beq this]
 rintro rfl
 obtain ⟨a⟩ := a
 show (a == a) = true
 simp
theorem same_key {td : TypeDesc} (hk : td = .string ∨ (∃ k, td = .int k) ∨ td = .bool) {x y : Value} (h : Instr.sameNow td x y = some true) : x = y /\ ∀ n, Instr.sameBits n y x = true := by
 rcases hk with rfl | ⟨k, rfl⟩ | rfl
 ·cases x <;> cases y <;> simp [Instr.sameNow] at h
  have h' := (bytes_beq' _ _).1 h
  subst h'
  exact ⟨rfl, fun n => by cases n <;> simpa [Instr.sameBits] using h⟩
 ·cases x <;> cases y <;> simp [Instr.sameNow] at h
  obtain ⟨rfl, rfl⟩ := h
  exact ⟨rfl, fun n => by cases n <;> simp [Instr.sameBits]⟩
 cases x <;> cases y <;> simp [Instr.sameNow] at h
 subst h
 exact ⟨rfl, fun n => by cases n <;> simp [Instr.sameBits]⟩
theorem repMap_set : ∀ {es : List (Value × Dat)} {ents : List MapEntry} {i : Nat} {e : MapEntry} {d : Dat} {f : MapEntry -> MapEntry}, RepMap w R es ents -> ents[i]? = some e -> (f e).key = e.key -> RepD w R (f e).val d ->
  RepMap w R (setAt i d es) (ents.modify i f)
 | [], _, i, e, d, f, h, he, _, _ => by simp [RepMap] at h; subst h; simp at he
 |(k, x) :: es, _, 0, e, d, f, ⟨e0, es', h1, h2, h3, h4⟩, he, hk, hd => by
  subst h1
  simp at he
  subst he
  exact ⟨f e0, es', by simp, by rw [hk]; exact h2, hd, h4⟩
 |(k, x) :: es, _, i + 1, e, d, f, ⟨e0, es', h1, h2, h3, h4⟩, he, hk, hd => by
  subst h1
  simp at he
  exact ⟨e0, es'.modify i f, by simp, h2, h3, repMap_set h4 he hk hd⟩
theorem repMap_del : ∀ {es : List (Value × Dat)} {ents : List MapEntry} {i : Nat}, RepMap w R es ents -> RepMap w R (delAt i es) (ents.eraseIdx i)
 | [], _, i, h => by simp [RepMap] at h; subst h; simp [delAt, RepMap]
 |(k, x) :: es, _, 0, ⟨e0, es', h1, h2, h3, h4⟩ => by subst h1; simpa [delAt] using h4
 |(k, x) :: es, _, i + 1, ⟨e0, es', h1, h2, h3, h4⟩ => by subst h1; exact ⟨e0, es'.eraseIdx i, by simp, h2, h3, repMap_del h4⟩
theorem repMap_push : ∀ {es : List (Value × Dat)} {ents : List MapEntry} {e : MapEntry} {k : Value} {d : Dat}, RepMap w R es ents -> e.key = k -> RepD w R e.val d -> RepMap w R (es ++ [(k, d)]) (ents ++ [e])
 | [], _, e, k, d, h, hk, hd => by simp [RepMap] at h; subst h; exact ⟨e, [], by simp, hk, hd, rfl⟩
 |(x, y) :: es, _, e, k, d, ⟨e0, es', h1, h2, h3, h4⟩, hk, hd => by subst h1; exact ⟨e0, es' ++ [e], by simp, h2, h3, repMap_push h4 hk hd⟩
theorem sound_mapUpdate (hE : E.Ok P) {t : TypeId} {n : Name} {b : Nat} {kv v : AVal} {kx x : Value} {es : List (Value × Dat)} {out : Out} (h : aMapUpdate E t [.map n, kv, v] (some (.map es)) = some out)
  (hob : RepObj w R N (.map es) b []) (hk : RepV w R N kv kx []) {bsV : List Nat} (hv : RepV w R N v x bsV) (bs : List Nat) (hb : b ∉ bs) :
  out.val = .undef /\ ∃ es', out.eff = .set (.map es') /\ ∃ w', (Instr.mapUpdate t (.map (some b)) kx x).run P w = .ok () w' /\ Keep w R w' R bs /\ RepObj w' R N (.map es') b [] := by
 unfold aMapUpdate at h
 split at h
 ·rename_i n' k v' heq
  simp at heq
  obtain ⟨rfl, rfl, rfl⟩ := heq
  obtain ⟨_, rfl, _⟩ := repV_flat_inv hk
  split at h
  ·rename_i kt et es0 hd heq2
   simp at heq2
   subst heq2
   split at h
   ·rename_i td d hkd hdat
    obtain ⟨hku, hkk⟩ := key_ok hE hkd
    have hmu := hE.desc_map hd
    obtain ⟨_, hR, ents, clock, hblk, hrm, hbo⟩ := hob
    have hdr := asDat_rep hv hdat
    have hset : ∀ o, (setObj b o).run P w = .ok () { w with heap := w.heap.setIfInBounds b o } := fun o => by simp [setObj, Sem.run, hblk]
    have hget : (getObj b).run P w = .ok (.map ents clock) w := by simp [getObj, Sem.run, hblk]
    split at h
    ·rename_i i d0 hf
     simp at h
     subst h
     refine ⟨rfl, _, rfl, ?_⟩
     obtain ⟨e, f1, f2, f3, f4, f5, f6⟩ := findKey_now td _ hrm (key_std hE hf)
     simp at f1
     obtain ⟨hsame, hbits⟩ := same_key hkk f5
     refine ⟨{ w with heap := w.heap.setIfInBounds b (.map (ents.modify i fun e => { e with key := kx, val := x }) clock) }, ?_, keep_setMap hblk hR bs hb, ?_⟩
     ·simp [Instr.mapUpdate, run_und hmu, hget, run_checkKey hku hkk, run_findKey hku f3, Instr.keyThatStays, f1, hbits, hset]
     have hk' := keep_setMap (R := R) (ents' := ents.modify i fun e => { e with key := kx, val := x }) (clock' := clock) hblk hR [] (by simp)
     refine ⟨rfl, hR, ents.modify i (fun e => { e with key := kx, val := x }), clock, by simp [lt_of_heap hblk], ?_, borns_modify hbo i _ fun _ => rfl⟩
     have := repMap_set (f := fun e => { e with key := kx, val := x }) hrm (by simpa using f1) (by simpa using hsame) hdr
     simpa using this.step hk'.step
    ·rename_i hf
     simp at h
     subst h
     refine ⟨rfl, _, rfl, ?_⟩
     have f3 := findKey_now td _ hrm (key_std hE hf)
     refine ⟨{ w with heap := w.heap.setIfInBounds b (.map (ents.push { key := kx, val := x, born := clock }) (clock + 1)) }, ?_, keep_setMap hblk hR bs hb, ?_⟩
     ·simp [Instr.mapUpdate, run_und hmu, hget, run_checkKey hku hkk, run_findKey hku f3, hset]
     have hk' := keep_setMap (R := R) (ents' := ents.push { key := kx, val := x, born := clock }) (clock' := clock + 1) hblk hR [] (by simp)
     refine ⟨rfl, hR, ents.push { key := kx, val := x, born := clock }, clock + 1, by simp [lt_of_heap hblk], ?_, borns_push hbo⟩
     have := repMap_push (e := { key := kx, val := x, born := clock }) hrm rfl hdr
     simpa using this.step hk'.step
    simp at h
   simp at h
  simp at h
 simp at h
theorem sound_delete (hE : E.Ok P) {t ty : TypeId} {ats : Array TypeId} (hat : ats[0]? = some t) {n : Name} {b : Nat} {kv : AVal} {kx : Value} {es : List (Value × Dat)} {out : Out} (h : aDelete E t [.map n, kv] (some (.map es)) = some out)
  (hob : RepObj w R N (.map es) b []) (hk : RepV w R N kv kx []) (bs : List Nat) (hb : b ∉ bs) :
  ∃ cv w', (Builtin.delete_ ats ty #[.map (some b), kx]).run P w = .ok cv w' /\ Keep w R w' R bs /\ RepV w' R N out.val cv [] ∧
   ∃ es', out.eff = .set (.map es') /\ RepObj w' R N (.map es') b [] := by
 unfold aDelete at h
 split at h
 ·rename_i n' k heq
  simp at heq
  obtain ⟨rfl, rfl⟩ := heq
  obtain ⟨_, rfl, _⟩ := repV_flat_inv hk
  split at h
  ·rename_i kt et es0 hd heq2
   simp at heq2
   subst heq2
   split at h
   ·rename_i td hkd
    obtain ⟨hku, hkk⟩ := key_ok hE hkd
    have hmu := hE.desc_map hd
    obtain ⟨_, hR, ents, clock, hblk, hrm, hbo⟩ := hob
    have hset : ∀ o, (setObj b o).run P w = .ok () { w with heap := w.heap.setIfInBounds b o } := fun o => by simp [setObj, Sem.run, hblk]
    have hget : (getObj b).run P w = .ok (.map ents clock) w := by simp [getObj, Sem.run, hblk]
    have htup : ∀ w', RepV w' R N (.tup []) (.tuple #[]) [] := fun w' => by simp only [RepV]; exact ⟨[], rfl, repVs_nil⟩
    split at h
    ·rename_i i d0 hf
     simp at h
     subst h
     obtain ⟨e, f1, f2, f3, f4, f5, f6⟩ := findKey_now td _ hrm (key_std hE hf)
     refine ⟨.tuple #[], { w with heap := w.heap.setIfInBounds b (.map (ents.eraseIdxIfInBounds i) clock) }, ?_, keep_setMap hblk hR bs hb, htup _, ⟨_, rfl, rfl, hR, ents.eraseIdxIfInBounds i, clock, by simp [lt_of_heap hblk], ?_, borns_erase hbo i⟩⟩
     ·simp [Builtin.delete_, hat, run_und hmu, hget, run_checkKey hku hkk, run_findKey hku f3, hset]
     have hk' := keep_setMap (R := R) (ents' := ents.eraseIdxIfInBounds i) (clock' := clock) hblk hR [] (by simp)
     have := (repMap_del (i := i) hrm).step hk'.step
     simpa using this
    ·rename_i hf
     simp at h
     subst h
     have f3 := findKey_now td _ hrm (key_std hE hf)
     refine ⟨.tuple #[], { w with heap := w.heap.setIfInBounds b (.map ents clock) }, ?_, keep_setMap hblk hR bs hb, htup _, ⟨_, rfl, rfl, hR, ents, clock, by simp [lt_of_heap hblk], ?_, hbo⟩⟩
     ·simp [Builtin.delete_, hat, run_und hmu, hget, run_checkKey hku hkk, run_findKey hku f3, hset]
     exact hrm.step (keep_setMap (R := R) (ents' := ents) (clock' := clock) hblk hR [] (by simp)).step
    simp at h
   simp at h
  simp at h
 simp at h
end
end Go.Tp

namespace Go.Tp
mutual
def noLoc : AVal -> Bool
 | .ptr (.loc _) _ => false
 | .map (.loc _) => false
 | .win (.loc _) _ _ _ => false
 | .fn _ first captured => noLocL first && noLocL captured
 | .agg cs => noLocL cs
 | .tup cs => noLocL cs
 | _ => true
def noLocL : List AVal -> Bool
 | [] => true
 | a :: r => noLoc a && noLocL r
end
mutual
def mentions (n : Name) : AVal -> Bool
 | .ptr m _ => decide (m = n)
 | .map m => decide (m = n)
 | .win m _ _ _ => decide (m = n)
 | .fn _ first captured => mentionsL n first || mentionsL n captured
 | .agg cs => mentionsL n cs
 | .tup cs => mentionsL n cs
 | _ => false
def mentionsL (n : Name) : List AVal -> Bool
 | [] => false
 | a :: r => mentions n a || mentionsL n r
end
/-- What names the object n is forgotten. -/
def purgeL (n : Name) : List AVal -> List AVal
 | [] => []
 | a :: r => (if mentions n a = true then .undef else a) :: purgeL n r
def purgeO (n : Name) : List (Name × AObj) -> List (Name × AObj)
 | [] => []
 |(m, .cells cs) :: r => if m = n then purgeO n r else (m, .cells (purgeL n cs)) :: purgeO n r
 |(m, .map es) :: r => if m = n then purgeO n r else (m, .map es) :: purgeO n r
def getT (l : List AVal) (t : Nat) : AVal := match l[t]? with | some v => v | none => .undef
def AState.put (s : AState) (dst : Option Tmp) (v : AVal) : AState :=
 match dst with
 | some d => { s with tmps := s.tmps.set d v }
 | none => s
def AState.obj (s : AState) (n : Name) : Option AObj :=
 match n with
 | .loc i => aget (.loc i) s.locs
 | .out o => aget (.out o) s.heap
def noLocO : AObj -> Bool
 | .cells cs => noLocL cs
 | .map _ => true
def AState.setObj (s : AState) (n : Name) (o : AObj) : Option AState :=
 match n with
 | .loc i => some { s with locs := aset (.loc i) o s.locs }
 | .out k => if noLocO o = true then some { s with heap := aset (.out k) o s.heap } else none
section
variable (E : TEnv) (G : Globs)
def aeval (s : AState) : Operand -> AVal
 | .tmp t => getT s.tmps t
 | .const v => ofConst v
 | .global g => match G g with | some cs => .ref cs | none => .undef
 | .func f => .fn (.func f) [] []
def opsL : Op -> List Operand
 | .move x | .assign x | .box _ x | .load _ x | .nilCheck x | .unOp _ _ x | .convert _ _ x | .fieldAddr _ x _ | .field _ x _ | .extract x _ => [x]
 | .pick c a b => [c, a, b]
 | .build _ ps | .buildSlice _ _ ps => ps.toList.map (·.2)
 | .store _ a v | .binOp _ _ a v _ | .indexAddr _ a v | .index _ a v | .lookup _ a v _ => [a, v]
 | .makeFunc _ first captured => first.toList ++ captured.toList
 | .slice _ x l h _ => x :: (l.toList ++ h.toList)
 | .mapUpdate _ m k v => [m, k, v]
 | .makeSlice _ l c => [l, c]
 | .insert _ m k v => [m, k, v]
 | .call c => c.args.toList
 | _ => []
def evalArgs (s : AState) (mv : Option Nat) : Nat -> List Operand -> List AVal
 | _, [] => []
 | k, x :: r => (if mv = some k then aeval G s x else unOwn (aeval G s x)) :: evalArgs s mv (k + 1) r
/-- The slot that loses its ownership. -/
def dropOwn (s : AState) (mv : Option Nat) (xs : List Operand) : AState :=
 match mv with
 | none => s
 | some k => match xs[k]? with
  | some (.tmp t) => { s with tmps := s.tmps.set t (unOwn (getT s.tmps t)) }
  | _ => s
def newVal (d : Nat) : AObj -> AVal
 | .cells _ => .ptr (.loc d) 0
 | .map _ => .map (.loc d)
def newObj (s : AState) (d : Nat) (o : AObj) : AState :=
 {s with tmps := (purgeL (.loc d) s.tmps).set d (newVal d o), locs := (.loc d, o) :: purgeO (.loc d) s.locs }
/-- A local row of a new name. -/
def newRowS (s : AState) (d : Nat) (o : AObj) (sz len : Nat) : AState :=
 {s with tmps := (purgeL (.loc d) s.tmps).set d (.win (.loc d) sz 0 len), locs := (.loc d, o) :: purgeO (.loc d) s.locs }
/-- A new object by a lasting name. -/
def outVal (k : Nat) : AObj -> AVal
 | .cells _ => .ptr (.out k) 0
 | .map _ => .map (.out k)
/-- The new object may name no object that goes. -/
def freshFor (d : Nat) : AObj -> Bool
 | .cells cs => !mentionsL (.loc d) cs
 | .map _ => true
def mvQ (q : Bool) (o : Op) : Option Nat := if q = true then none else movedOp o
def lookedAt (s : AState) (o : Op) (vals : List AVal) : Option AObj := match looks o vals with | some n => s.obj n | none => none
def astepOut (o : Oper) (n : Option Name) (s : AState) (out : Out) : Option AState :=
 match out.eff with
 | .keep => some (s.put o.dst out.val)
 | .set ob' => (match n with
  | some n => (match s.setObj n ob' with | some s => some (s.put o.dst out.val) | none => none)
  | none => none)
 | .new ob' => (match o.dst with
  | some d => if freshFor d ob' = true then some (newObj s d ob') else none
  | none => none)
 | .fresh ob' => if noLocO ob' = true then some (({ s with heap := (.out s.next, ob') :: s.heap, next := s.next + 1 } : AState).put o.dst (outVal s.next ob')) else none
 | .row ob' sz len => (match o.dst with
  | some d => if freshFor d ob' = true then some (newRowS s d ob' sz len) else none
  | none => none)
 | .grow ob' sz len => (match n with
  | some (.loc k) => if noLocO ob' = true then some (({ s with locs := adel (.loc k) s.locs, heap := (.out s.next, ob') :: s.heap, next := s.next + 1 } : AState).put o.dst (.win (.out s.next) sz 0 len)) else none
  | some (.out k) => if noLocO ob' = true then some (({ s with heap := (.out s.next, ob') :: adel (.out k) s.heap, next := s.next + 1 } : AState).put o.dst (.win (.out s.next) sz 0 len)) else none
  | none => if noLocO ob' = true then some (({ s with heap := (.out s.next, ob') :: s.heap, next := s.next + 1 } : AState).put o.dst (.win (.out s.next) sz 0 len)) else none)
/-- One operation that is no call of a function; q: nothing that is owned is moved. -/
def astep (q take : Bool) (o : Oper) (s : AState) : Option AState :=
 match aop E take o.op (evalArgs G s (mvQ q o.op) 0 (opsL o.op)) (lookedAt s o.op (evalArgs G s (mvQ q o.op) 0 (opsL o.op))) with
 | none => none
 | some out => astepOut o (looks o.op (evalArgs G s (mvQ q o.op) 0 (opsL o.op))) (dropOwn s (mvQ q o.op) (opsL o.op)) out
end
end Go.Tp

namespace Go.Tp
section
variable {P : Program} {E : TEnv} {G : Globs} {w : World} {R : Own} {N N' : Name -> Option Nat}
/-! #### Cells that are not known -/
theorem noLocL_append : ∀ (l m : List AVal), noLocL (l ++ m) = (noLocL l && noLocL m)
 | [], m => by simp [noLocL]
 | a :: l, m => by simp [noLocL, noLocL_append l m, Bool.and_assoc]
theorem noLocL_undef : ∀ k : Nat, noLocL (List.replicate k .undef) = true
 | 0 => rfl
 | k + 1 => by simp [List.replicate_succ, noLocL, noLoc, noLocL_undef k]
theorem noLocL_pad (cs : List AVal) (k : Nat) : noLocL (cs ++ List.replicate k .undef) = noLocL cs := by rw [noLocL_append, noLocL_undef, Bool.and_true]
theorem mentionsL_append (n : Name) : ∀ (l m : List AVal), mentionsL n (l ++ m) = (mentionsL n l || mentionsL n m)
 | [], m => by simp [mentionsL]
 | a :: l, m => by simp [mentionsL, mentionsL_append n l m, Bool.or_assoc]
theorem mentionsL_undef (n : Name) : ∀ k : Nat, mentionsL n (List.replicate k .undef) = false
 | 0 => rfl
 | k + 1 => by simp [List.replicate_succ, mentionsL, mentions, mentionsL_undef n k]
theorem mentionsL_pad (n : Name) (cs : List AVal) (k : Nat) : mentionsL n (cs ++ List.replicate k .undef) = mentionsL n cs := by rw [mentionsL_append, mentionsL_undef, Bool.or_false]
theorem bldSh_purge {n : Name} {cs : List AVal} (h : bldSh (purgeL n cs) = true) : bldSh cs = true := by
 obtain ⟨p, q, e, hp, hq⟩ := bldSh_iff.1 h
 match cs with
 | [] => simp [purgeL] at e
 | [a] => simp [purgeL] at e
 | [a, b] =>
  simp only [purgeL, List.cons.injEq, and_true] at e
  obtain ⟨e1, e2⟩ := e
  refine bldSh_iff.2 ⟨a, b, rfl, ?_, ?_⟩
  ·split at e1
   ·rw [← e1] at hp; simp [isP] at hp
   rw [e1]; exact hp
  split at e2
  ·rw [← e2] at hq; simp [isS] at hq
  rw [e2]; exact hq
 | _ :: _ :: _ :: _ => simp [purgeL] at e
theorem purgeL_append (n : Name) : ∀ (l m : List AVal), purgeL n (l ++ m) = purgeL n l ++ purgeL n m
 | [], m => by simp [purgeL]
 | a :: l, m => by simp [purgeL, purgeL_append n l m]
theorem purgeL_undef (n : Name) : ∀ k : Nat, purgeL n (List.replicate k .undef) = List.replicate k .undef
 | 0 => rfl
 | k + 1 => by simp [List.replicate_succ, purgeL, mentions, purgeL_undef n k]
theorem purgeL_pad (n : Name) (cs : List AVal) (k : Nat) : purgeL n (cs ++ List.replicate k .undef) = purgeL n cs ++ List.replicate k .undef := by rw [purgeL_append, purgeL_undef]
theorem repVs_split : ∀ {as cs : List AVal} {vs : List Value} {bs : List Nat}, RepVs w R N (as ++ cs) vs bs -> ∃ us1 us2 b1 b2, vs = us1 ++ us2 /\ bs = b1 ++ b2 /\ RepVs w R N as us1 b1 /\ RepVs w R N cs us2 b2
 | [], _, vs, bs, h => ⟨[], vs, [], bs, rfl, rfl, repVs_nil, h⟩
 | a :: as, cs, _, _, h => by
  obtain ⟨v, vs', b1, b2, rfl, rfl, h1, h2⟩ := repVs_cons_inv (as := as ++ cs) h
  obtain ⟨us1, us2, c1, c2, rfl, rfl, h3, h4⟩ := repVs_split h2
  exact ⟨v :: us1, us2, b1 ++ c1, c2, rfl, by simp, repVs_cons h1 h3, h4⟩
/-! #### What is owned exists -/
theorem RepOwn.lt {v : Value} {es : List Dat} {bs : List Nat} (h : RepOwn w R v es bs) : ∀ b ∈ bs, b < w.heap.size := by
 rcases repOwn_inv h with ⟨_, _, rfl⟩ | ⟨b, cap, s, vs, t, _, rfl, hb, _⟩
 ·simp
 intro c hc; simp at hc; subst hc; exact lt_of_heap hb
mutual
theorem RepV.lt : ∀ {a : AVal} {v : Value} {bs : List Nat}, RepV w R N a v bs -> ∀ b ∈ bs, b < w.heap.size
 | .dat _, _, _, h => by simp only [RepV] at h; obtain ⟨rfl, _⟩ := h; simp
 | .own _, _, _, h => by simp only [RepV] at h; exact h.lt
 | .ref _, _, _, h => by simp only [RepV] at h; obtain ⟨rfl, _⟩ := h; simp
 | .ptr _ _, _, _, h => by simp only [RepV] at h; obtain ⟨rfl, _⟩ := h; simp
 | .map _, _, _, h => by simp only [RepV] at h; obtain ⟨rfl, _⟩ := h; simp
 | .win _ _ _ _, _, _, h => by simp only [RepV] at h; obtain ⟨rfl, _⟩ := h; simp
 | .fn _ _ _, _, _, h => by simp only [RepV] at h; obtain ⟨rfl, _⟩ := h; simp
 | .agg cs, _, _, h => by simp only [RepV] at h; obtain ⟨vs, _, h⟩ := h; exact RepVs.lt (as := cs) h
 | .tup cs, _, _, h => by simp only [RepV] at h; obtain ⟨vs, _, h⟩ := h; exact RepVs.lt (as := cs) h
 | .undef, _, _, h => by simp only [RepV] at h; subst h; simp
theorem RepVs.lt : ∀ {as : List AVal} {vs : List Value} {bs : List Nat}, RepVs w R N as vs bs -> ∀ b ∈ bs, b < w.heap.size
 | [], _, _, h => by simp only [RepVs] at h; obtain ⟨_, rfl⟩ := h; simp
 | a :: as, _, _, h => by
  simp only [RepVs] at h
  obtain ⟨v, vs', b1, b2, _, rfl, h1, h2⟩ := h
  intro b hb
  rcases List.mem_append.1 hb with hb | hb
  ·exact RepV.lt (a := a) h1 b hb
  exact RepVs.lt (as := as) h2 b hb
end
theorem RepObj.lt {o : AObj} {b : Nat} {bs : List Nat} (h : RepObj w R N o b bs) : b < w.heap.size /\ ∀ c ∈ bs, c < w.heap.size := by
 cases o with
 | cells cs => obtain ⟨vs, e, sp, hb, hr, _⟩ := h; exact ⟨lt_of_heap hb, hr.lt⟩
 | map es => obtain ⟨rfl, _, ents, cl, hb, _⟩ := h; exact ⟨lt_of_heap hb, by simp⟩
theorem RepObjs.lt : ∀ {os : List (Name × AObj)} {bs : List Nat}, RepObjs w R N os bs -> ∀ b ∈ bs, b < w.heap.size
 | [], _, h => by simp [RepObjs] at h; subst h; simp
 |(_, _) :: _, _, ⟨b, b1, b2, e, _, h1, h2⟩ => by
  subst e
  intro c hc
  obtain ⟨g1, g2⟩ := h1.lt
  simp at hc
  rcases hc with rfl | hc | hc
  ·exact g1
  ·exact g2 c hc
  exact RepObjs.lt h2 c hc
/-! #### Names -/
mutual
theorem RepV.reN : ∀ {a : AVal} {v : Value} {bs : List Nat}, RepV w R N a v bs -> noLoc a = true -> (∀ o, N' (.out o) = N (.out o)) -> RepV w R N' a v bs
 | .dat _, _, _, h, _, _ => by simp only [RepV] at h ⊢; exact h
 | .own _, _, _, h, _, _ => by simp only [RepV] at h ⊢; exact h
 | .ref _, _, _, h, _, _ => by simp only [RepV] at h ⊢; exact h
 | .ptr (.loc _) _, _, _, _, hn, _ => by simp [noLoc] at hn
 | .ptr (.out _) _, _, _, h, _, hN => by simp only [RepV, hN] at h ⊢; exact h
 | .map (.loc _), _, _, _, hn, _ => by simp [noLoc] at hn
 | .map (.out _), _, _, h, _, hN => by simp only [RepV, hN] at h ⊢; exact h
 | .win (.loc _) _ _ _, _, _, _, hn, _ => by simp [noLoc] at hn
 | .win (.out _) _ _ _, _, _, h, _, hN => by simp only [RepV, hN] at h ⊢; exact h
 | .fn _ x y, _, _, h, hn, hN => by
  simp only [noLoc, Bool.and_eq_true] at hn
  simp only [RepV] at h ⊢
  obtain ⟨h1, vs, us, e, h2, h3⟩ := h
  exact ⟨h1, vs, us, e, RepVs.reN (as := x) h2 hn.1 hN, RepVs.reN (as := y) h3 hn.2 hN⟩
 | .agg cs, _, _, h, hn, hN => by
  simp only [noLoc] at hn
  simp only [RepV] at h ⊢
  obtain ⟨vs, e, h⟩ := h
  exact ⟨vs, e, RepVs.reN (as := cs) h hn hN⟩
 | .tup cs, _, _, h, hn, hN => by
  simp only [noLoc] at hn
  simp only [RepV] at h ⊢
  obtain ⟨vs, e, h⟩ := h
  exact ⟨vs, e, RepVs.reN (as := cs) h hn hN⟩
 | .undef, _, _, h, _, _ => by simp only [RepV] at h ⊢; exact h
theorem RepVs.reN : ∀ {as : List AVal} {vs : List Value} {bs : List Nat}, RepVs w R N as vs bs -> noLocL as = true -> (∀ o, N' (.out o) = N (.out o)) -> RepVs w R N' as vs bs
 | [], _, _, h, _, _ => by simp only [RepVs] at h ⊢; exact h
 | a :: as, _, _, h, hn, hN => by
  simp only [noLocL, Bool.and_eq_true] at hn
  simp only [RepVs] at h ⊢
  obtain ⟨v, vs', b1, b2, e1, e2, h1, h2⟩ := h
  exact ⟨v, vs', b1, b2, e1, e2, RepV.reN (a := a) h1 hn.1 hN, RepVs.reN (as := as) h2 hn.2 hN⟩
end
mutual
theorem RepV.noLoc_of_outs : ∀ {a : AVal} {v : Value} {bs : List Nat}, RepV w R (outs N) a v bs -> noLoc a = true
 | .dat _, _, _, _ => by simp [noLoc]
 | .own _, _, _, _ => by simp [noLoc]
 | .ref _, _, _, _ => by simp [noLoc]
 | .ptr (.loc _) _, _, _, h => by simp [RepV, Tp.outs] at h
 | .ptr (.out _) _, _, _, _ => by simp [noLoc]
 | .map (.loc _), _, _, h => by simp [RepV, Tp.outs] at h
 | .map (.out _), _, _, _ => by simp [noLoc]
 | .win (.loc _) _ _ _, _, _, h => by simp [RepV, Tp.outs] at h
 | .win (.out _) _ _ _, _, _, _ => by simp [noLoc]
 | .fn _ x y, _, _, h => by
  simp only [RepV] at h
  obtain ⟨h1, vs, us, e, h2, h3⟩ := h
  simp only [noLoc, Bool.and_eq_true]
  exact ⟨RepVs.noLoc_of_outs (as := x) h2, RepVs.noLoc_of_outs (as := y) h3⟩
 | .agg cs, _, _, h => by
  simp only [RepV] at h
  obtain ⟨vs, e, h⟩ := h
  simpa only [noLoc] using RepVs.noLoc_of_outs (as := cs) h
 | .tup cs, _, _, h => by
  simp only [RepV] at h
  obtain ⟨vs, e, h⟩ := h
  simpa only [noLoc] using RepVs.noLoc_of_outs (as := cs) h
 | .undef, _, _, _ => by simp [noLoc]
theorem RepVs.noLoc_of_outs : ∀ {as : List AVal} {vs : List Value} {bs : List Nat}, RepVs w R (outs N) as vs bs -> noLocL as = true
 | [], _, _, _ => by simp [noLocL]
 | a :: as, _, _, h => by
  simp only [RepVs] at h
  obtain ⟨v, vs', b1, b2, e1, e2, h1, h2⟩ := h
  simp only [noLocL, Bool.and_eq_true]
  exact ⟨RepV.noLoc_of_outs (a := a) h1, RepVs.noLoc_of_outs (as := as) h2⟩
end
theorem RepV.to_outs {a : AVal} {v : Value} {bs : List Nat} (h : RepV w R N a v bs) (hn : noLoc a = true) : RepV w R (outs N) a v bs := h.reN hn (fun _ => rfl)
theorem RepObj.reN {o : AObj} {b : Nat} {bs : List Nat} (h : RepObj w R N o b bs) (hn : noLocO o = true) (hN : ∀ o, N' (.out o) = N (.out o)) : RepObj w R N' o b bs := by
 cases o with
 | cells cs => obtain ⟨vs, e, sp, hb, hr, hR⟩ := h; exact ⟨vs, e, sp, hb, RepVs.reN hr (by rw [noLocL_pad]; exact hn) hN, hR⟩
 | map es => exact h
theorem RepObjs.outs_eq : ∀ {os : List (Name × AObj)} {bs : List Nat}, RepObjs w R (Tp.outs N) os bs -> (∀ o, N' (.out o) = N (.out o)) -> RepObjs w R (Tp.outs N') os bs
 | [], _, h, _ => h
 |(n, o) :: os, _, ⟨b, b1, b2, e, hn, h1, h2⟩, hN => by
  refine ⟨b, b1, b2, e, ?_, ?_, RepObjs.outs_eq h2 hN⟩
  ·cases n with
   | loc i => simp [Tp.outs] at hn
   | out k => simpa [Tp.outs, hN] using hn
  cases o with
  | cells cs =>
   obtain ⟨vs, e, sp, hb, hr, hR⟩ := h1
   exact ⟨vs, e, sp, hb, RepVs.reN hr hr.noLoc_of_outs (by intro o; simp [Tp.outs, hN]), hR⟩
  | map es => exact h1
mutual
theorem RepV.other {n : Name} : ∀ {a : AVal} {v : Value} {bs : List Nat}, RepV w R N a v bs -> mentions n a = false -> (∀ m, m ≠ n -> N' m = N m) -> RepV w R N' a v bs
 | .dat _, _, _, h, _, _ => by simp only [RepV] at h ⊢; exact h
 | .own _, _, _, h, _, _ => by simp only [RepV] at h ⊢; exact h
 | .ref _, _, _, h, _, _ => by simp only [RepV] at h ⊢; exact h
 | .ptr m _, _, _, h, hn, hN => by
  simp only [mentions, decide_eq_false_iff_not] at hn
  simp only [RepV, hN m hn] at h ⊢; exact h
 | .map m, _, _, h, hn, hN => by
  simp only [mentions, decide_eq_false_iff_not] at hn
  simp only [RepV, hN m hn] at h ⊢; exact h
 | .win m _ _ _, _, _, h, hn, hN => by
  simp only [mentions, decide_eq_false_iff_not] at hn
  simp only [RepV, hN m hn] at h ⊢; exact h
 | .fn _ x y, _, _, h, hn, hN => by
  simp only [mentions, Bool.or_eq_false_iff] at hn
  simp only [RepV] at h ⊢
  obtain ⟨h1, vs, us, e, h2, h3⟩ := h
  exact ⟨h1, vs, us, e, RepVs.other (as := x) h2 hn.1 hN, RepVs.other (as := y) h3 hn.2 hN⟩
 | .agg cs, _, _, h, hn, hN => by
  simp only [mentions] at hn
  simp only [RepV] at h ⊢
  obtain ⟨vs, e, h⟩ := h
  exact ⟨vs, e, RepVs.other (as := cs) h hn hN⟩
 | .tup cs, _, _, h, hn, hN => by
  simp only [mentions] at hn
  simp only [RepV] at h ⊢
  obtain ⟨vs, e, h⟩ := h
  exact ⟨vs, e, RepVs.other (as := cs) h hn hN⟩
 | .undef, _, _, h, _, _ => by simp only [RepV] at h ⊢; exact h
theorem RepVs.other {n : Name} : ∀ {as : List AVal} {vs : List Value} {bs : List Nat}, RepVs w R N as vs bs -> mentionsL n as = false -> (∀ m, m ≠ n -> N' m = N m) -> RepVs w R N' as vs bs
 | [], _, _, h, _, _ => by simp only [RepVs] at h ⊢; exact h
 | a :: as, _, _, h, hn, hN => by
  simp only [mentionsL, Bool.or_eq_false_iff] at hn
  simp only [RepVs] at h ⊢
  obtain ⟨v, vs', b1, b2, e1, e2, h1, h2⟩ := h
  exact ⟨v, vs', b1, b2, e1, e2, RepV.other (a := a) h1 hn.1 hN, RepVs.other (as := as) h2 hn.2 hN⟩
end
theorem RepVs.purge {n : Name} (hN : ∀ m, m ≠ n -> N' m = N m) : ∀ {as : List AVal} {vs : List Value} {bs : List Nat}, RepVs w R N as vs bs -> ∃ bs', RepVs w R N' (purgeL n as) vs bs' /\ bs'.Sublist bs
 | [], _, _, h => by obtain ⟨rfl, rfl⟩ := repVs_nil_inv h; exact ⟨[], repVs_nil, .refl _⟩
 | a :: as, _, _, h => by
  obtain ⟨v, vs', b1, b2, rfl, rfl, h1, h2⟩ := repVs_cons_inv h
  obtain ⟨bs', g1, g2⟩ := RepVs.purge hN h2
  unfold purgeL
  split
  ·exact ⟨[] ++ bs', repVs_cons (repV_undef v) g1, by simpa using g2.trans (List.sublist_append_right b1 b2)⟩
  rename_i hm
  exact ⟨b1 ++ bs', repVs_cons (h1.other (by simpa using hm) hN) g1, List.Sublist.append (.refl _) g2⟩
theorem RepObjs.purge {n : Name} (hN : ∀ m, m ≠ n -> N' m = N m) : ∀ {os : List (Name × AObj)} {bs : List Nat}, RepObjs w R N os bs -> ∃ bs', RepObjs w R N' (purgeO n os) bs' /\ bs'.Sublist bs
 | [], _, h => ⟨_, h, .refl _⟩
 |(m, .cells cs) :: os, _, ⟨b, b1, b2, e, hn, h1, h2⟩ => by
  subst e
  obtain ⟨bs', g1, g2⟩ := RepObjs.purge hN h2
  unfold purgeO
  split
  ·exact ⟨bs', g1, g2.trans ((List.sublist_append_right b1 b2).cons _)⟩
  rename_i hm
  obtain ⟨vs, el, sp, hb, hr, hR⟩ := h1
  obtain ⟨c1, k1, k2⟩ := RepVs.purge hN hr
  rw [purgeL_pad] at k1
  exact ⟨b :: (c1 ++ bs'), ⟨b, c1, bs', rfl, by rw [hN m hm]; exact hn, ⟨vs, el, sp, hb, k1, hR.1, fun h => hR.2 (bldSh_purge h)⟩, g1⟩, (List.Sublist.append k2 g2).cons_cons _⟩
 |(m, .map es) :: os, _, ⟨b, b1, b2, e, hn, h1, h2⟩ => by
  subst e
  obtain ⟨bs', g1, g2⟩ := RepObjs.purge hN h2
  unfold purgeO
  split
  ·exact ⟨bs', g1, g2.trans ((List.sublist_append_right b1 b2).cons _)⟩
  rename_i hm
  exact ⟨b :: (b1 ++ bs'), ⟨b, b1, bs', rfl, by rw [hN m hm]; exact hn, h1, g1⟩, (List.Sublist.append (.refl _) g2).cons_cons _⟩
end
end Go.Tp
