/- The generic layer: pure data, abstract values, and their relation to the model's worlds. -/
import Derived.Orders
import Derived.Laws.Cells
import Derived.Laws.World
import Derived.Laws.Rows
namespace Go.Tp

/-! ### Pure data -/

/-- Data without addresses: scalars, slices as lists of elements, structs as flattened cells. -/
inductive Dat where
  | flat (v : Value)
  | slice (es : List Dat)
  | agg (cs : List Dat)
  deriving Inhabited

def Dat.cells : Dat → List Dat
  | .agg cs => cs
  | .flat v => [.flat v]
  | .slice es => [.slice es]

/-- A value of one cell that holds no address. -/
def isFlat : Value → Bool
  | .int k n => decide (k.min ≤ n) && decide (n ≤ k.max)
  | .string s => decide (s.size ≤ 9223372036854775807)
  | .bool _ | .float _ _ | .complex _ _ _ | .pointer none | .map none | .chan none | .nilFunc | .nilIface => true
  | .iface _ v => isFlat v
  | .slice none 0 0 => true
  | _ => false

/-- No slice that is read has more elements. -/
def lim : Nat := 68719476736

/-- The writable cells. -/
abbrev Own := Nat → Nat → Prop

/-- The value of one cell reads as the datum; all that it reaches lies outside R. -/
inductive RepC (w : World) (R : Own) : Value → Dat → Prop
  | flat {v : Value} (h : isFlat v = true) : RepC w R v (.flat v)
  | nil (a : Option Addr) (cap : Nat) : RepC w R (.slice a 0 cap) (.slice [])
  | slice (b off cap s : Nat) (es : List Dat) (vs : Nat → Nat → Value) (hs : 0 < s) (hlen : ∀ e ∈ es, e.cells.length = s)
      (hcap : es.length ≤ cap) (hb : es.length ≤ lim)
      (hcell : ∀ i j, i < es.length → j < s → w.cell? ⟨b, off + i * s + j, none⟩ = some (vs i j) ∧ ¬ R b (off + i * s + j))
      (hrep : ∀ i j (e c : Dat), es[i]? = some e → e.cells[j]? = some c → RepC w R (vs i j) c) :
      RepC w R (.slice (some ⟨b, off, none⟩) es.length cap) (.slice es)

/-- Cells in a row. -/
def RepCs (w : World) (R : Own) : List Value → List Dat → Prop
  | [], [] => True
  | v :: vs, c :: cs => RepC w R v c ∧ RepCs w R vs cs
  | _, _ => False

/-- A value (of one or more cells) reads as the datum. -/
def RepD (w : World) (R : Own) (v : Value) : Dat → Prop
  | .agg cs => ∃ vs : List Value, v = .agg vs.toArray ∧ RepCs w R vs cs
  | .flat u => RepC w R v (.flat u)
  | .slice es => RepC w R v (.slice es)

/-- Immutable cells from an address on. -/
def RepAt (w : World) (R : Own) (b off : Nat) : List Dat → Prop
  | [] => True
  | c :: cs => (∃ v, w.cell? ⟨b, off, none⟩ = some v ∧ ¬ R b off ∧ RepC w R v c) ∧ RepAt w R b (off + 1) cs

/-- How many cells a block has. -/
def rowSize (w : World) (b : Nat) : Nat := match w.heap[b]? with | some (.cells vs _ _) => vs.size | _ => 0

/-- What is outside R stays, and stays outside. -/
structure Step (w : World) (R : Own) (w' : World) (R' : Own) : Prop where
  os : w'.os = w.os
  tape : w'.tape = w.tape
  output : w'.output = w.output
  size : w.heap.size ≤ w'.heap.size
  block : ∀ b, b < w.heap.size → (∀ off, ¬ R b off) → w'.heap[b]? = w.heap[b]? ∧ ∀ off, ¬ R' b off
  cell : ∀ b off, b < w.heap.size → ¬ R b off → ¬ R' b off ∧ w'.cell? ⟨b, off, none⟩ = w.cell? ⟨b, off, none⟩
  sizes : ∀ b, b < w.heap.size → rowSize w' b = rowSize w b

theorem Step.refl (w : World) (R : Own) : Step w R w R :=
  ⟨rfl, rfl, rfl, Nat.le_refl _, fun _ _ h => ⟨rfl, h⟩, fun _ _ _ h => ⟨h, rfl⟩, fun _ _ => rfl⟩

theorem Step.trans {w w1 w2 : World} {R R1 R2 : Own} (h : Step w R w1 R1) (k : Step w1 R1 w2 R2) : Step w R w2 R2 where
  os := k.os.trans h.os
  tape := k.tape.trans h.tape
  output := k.output.trans h.output
  size := Nat.le_trans h.size k.size
  block b hb hR := by
    obtain ⟨e1, h1⟩ := h.block b hb hR
    obtain ⟨e2, h2⟩ := k.block b (Nat.lt_of_lt_of_le hb h.size) h1
    exact ⟨e2.trans e1, h2⟩
  cell b off hb hR := by
    obtain ⟨h1, e1⟩ := h.cell b off hb hR
    obtain ⟨h2, e2⟩ := k.cell b off (Nat.lt_of_lt_of_le hb h.size) h1
    exact ⟨h2, e2.trans e1⟩
  sizes b hb := (k.sizes b (Nat.lt_of_lt_of_le hb h.size)).trans (h.sizes b hb)

theorem lt_of_cell {w : World} {b off : Nat} {v : Value} (h : w.cell? ⟨b, off, none⟩ = some v) : b < w.heap.size :=
  block_lt_of_cell (a := ⟨b, off, none⟩) h

theorem RepC.step {w w' : World} {R R' : Own} (st : Step w R w' R') {v : Value} {d : Dat} (h : RepC w R v d) : RepC w' R' v d := by
  induction h with
  | flat h => exact .flat h
  | nil a cap => exact .nil a cap
  | slice b off cap s es vs hs hlen hcap hb hcell _ ih =>
    refine .slice b off cap s es vs hs hlen hcap hb (fun i j hi hj => ?_) ih
    obtain ⟨hc, hR⟩ := hcell i j hi hj
    obtain ⟨h1, h2⟩ := st.cell b _ (lt_of_cell hc) hR
    exact ⟨h2.trans hc, h1⟩

theorem RepCs.step {w w' : World} {R R' : Own} (st : Step w R w' R') : ∀ {vs : List Value} {cs : List Dat}, RepCs w R vs cs → RepCs w' R' vs cs
  | [], [], _ => trivial
  | _ :: _, _ :: _, h => ⟨h.1.step st, RepCs.step st h.2⟩
  | [], _ :: _, h => h.elim
  | _ :: _, [], h => h.elim

theorem RepD.step {w w' : World} {R R' : Own} (st : Step w R w' R') {v : Value} : ∀ {d : Dat}, RepD w R v d → RepD w' R' v d
  | .agg _, ⟨vs, e, h⟩ => ⟨vs, e, h.step st⟩
  | .flat _, h => RepC.step st h
  | .slice _, h => RepC.step st h

theorem RepAt.step {w w' : World} {R R' : Own} (st : Step w R w' R') {b : Nat} : ∀ {off : Nat} {cs : List Dat}, RepAt w R b off cs → RepAt w' R' b off cs
  | _, [], _ => trivial
  | off, _ :: _, ⟨⟨v, hc, hR, hr⟩, ht⟩ => by
    obtain ⟨h1, h2⟩ := st.cell b off (lt_of_cell hc) hR
    exact ⟨⟨v, h2.trans hc, h1, hr.step st⟩, RepAt.step st ht⟩

/-! ### Abstract values -/

/-- Names of mutable objects: of the frame (by the slot that made them), and of the rest. -/
inductive Name where
  | loc (i : Nat)
  | out (o : Nat)
  deriving DecidableEq, Inhabited

inductive AVal where
  | dat (d : Dat)
  /-- a slice whose spare capacity nobody else may write -/
  | own (es : List Dat)
  /-- a pointer to immutable cells -/
  | ref (cs : List Dat)
  | ptr (n : Name) (off : Nat)
  | map (n : Name)
  /-- a slice whose elements, of s cells each, lie in the object n from the cell off on -/
  | win (n : Name) (s off len : Nat)
  | fn (f : Fn) (first captured : List AVal)
  | agg (cs : List AVal)
  | tup (vs : List AVal)
  | undef
  deriving Inhabited

inductive AObj where
  | cells (cs : List AVal)
  | map (es : List (Value × Dat))
  deriving Inhabited

/-- A frame's state: its slots, its own objects (named by slots), the other objects, the next free name of these. -/
structure AState where
  tmps : List AVal
  locs : List (Name × AObj)
  heap : List (Name × AObj)
  next : Nat

/-- The numbers of the types uint8 and strings.Builder: a seat's own. -/
def byteId : TypeId := 5
def bldId : TypeId := 95

def isBytes : List Dat → Bool
  | .flat (.int .u8 _) :: _ => true
  | _ => false

def isP : AVal → Bool
  | .dat (.flat (.pointer none)) => true
  | .ptr _ _ => true
  | _ => false

/-- The cells of a strings.Builder, or of what looks like one. -/
def bldSh : List AVal → Bool
  | [p, .own _] => isP p
  | [p, .dat (.slice _)] => isP p
  | [p, .dat (.flat (.slice none 0 0))] => isP p
  | _ => false

/-- An owned slice: nil, or a row of a block whose spare cells are writable and nobody else's. -/
inductive RepOwn (w : World) (R : Own) : Value → List Dat → List Nat → Prop
  | nil : RepOwn w R (.slice none 0 0) [] []
  | row (b cap s : Nat) (es : List Dat) (vs : Array Value) (t : TypeId) (hblk : w.heap[b]? = some (.cells vs t (0, 0)))
      (hs0 : 0 < s) (hs : ∀ e ∈ es, e.cells.length = s) (hcap : es.length ≤ cap) (he : es = [] → cap = 0) (hin : cap * s ≤ vs.size)
      (h : RepC w R (.slice (some ⟨b, 0, none⟩) es.length cap) (.slice es))
      (hsp : ∀ x, es.length * s ≤ x → x < cap * s ∨ vs.size ≤ x → R b x) (hty : isBytes es = true → t = byteId) :
      RepOwn w R (.slice (some ⟨b, 0, none⟩) es.length cap) es [b]

/-- The stamps of a map's entries: earlier than the map's clock, and no two alike. -/
def Borns (ents : Array MapEntry) (clock : Nat) : Prop := (∀ x ∈ ents.toList, x.born < clock) ∧ (ents.toList.map (·.born)).Nodup

section
variable (w : World) (R : Own) (N : Name → Option Nat)
mutual
def RepV : AVal → Value → List Nat → Prop
  | .dat d, v, bs => bs = [] ∧ RepD w R v d
  | .own es, v, bs => RepOwn w R v es bs
  | .ref cs, v, bs => bs = [] ∧ ∃ b off, v = .pointer (some ⟨b, off, none⟩) ∧ RepAt w R b off cs
  | .ptr n off, v, bs => bs = [] ∧ ∃ b, N n = some b ∧ v = .pointer (some ⟨b, off, none⟩)
  | .map n, v, bs => bs = [] ∧ ∃ b, N n = some b ∧ v = .map (some b)
  | .win n s off len, v, bs => bs = [] ∧ ∃ b cap, N n = some b ∧ v = .slice (some ⟨b, off, none⟩) len cap ∧ len ≤ cap ∧ 0 < s ∧ b < w.heap.size ∧ off + cap * s = rowSize w b
  | .fn f first captured, v, bs => bs = [] ∧ ∃ vs us, v = .func f vs.toArray us.toArray ∧ RepVs first vs [] ∧ RepVs captured us []
  | .agg cs, v, bs => ∃ vs, v = .agg vs.toArray ∧ RepVs cs vs bs
  | .tup cs, v, bs => ∃ vs, v = .tuple vs.toArray ∧ RepVs cs vs bs
  | .undef, _, bs => bs = []
def RepVs : List AVal → List Value → List Nat → Prop
  | [], vs, bs => vs = [] ∧ bs = []
  | a :: as, vs, bs => ∃ v vs' b1 b2, vs = v :: vs' ∧ bs = b1 ++ b2 ∧ RepV a v b1 ∧ RepVs as vs' b2
end

def RepMap : List (Value × Dat) → List MapEntry → Prop
  | [], es => es = []
  | (k, d) :: rest, es => ∃ e es', es = e :: es' ∧ e.key = k ∧ RepD w R e.val d ∧ RepMap rest es'

def RepObj : AObj → Nat → List Nat → Prop
  | .cells cs, b, bs => ∃ vs elem sp, w.heap[b]? = some (.cells vs elem (0, 0)) ∧ RepVs w R N (cs ++ List.replicate sp .undef) vs.toList bs ∧ (∀ j, j < vs.size → R b j) ∧ (bldSh cs = true → elem = bldId ∧ sp = 0)
  | .map es, b, bs => bs = [] ∧ R b 0 ∧ ∃ ents clock, w.heap[b]? = some (.map ents clock) ∧ RepMap w R es ents.toList ∧ Borns ents clock

def RepObjs : List (Name × AObj) → List Nat → Prop
  | [], bs => bs = []
  | (n, o) :: rest, bs => ∃ b b1 b2, bs = b :: (b1 ++ b2) ∧ N n = some b ∧ RepObj w R N o b b1 ∧ RepObjs rest b2
end

/-- The package-level variables that are read as immutable cells. -/
abbrev Globs := Nat → Option (List Dat)

/-- The names that are not a frame's own. -/
def outs (N : Name → Option Nat) : Name → Option Nat
  | .loc _ => none
  | .out o => N (.out o)

/-- The relation of a frame's state to the world, a value in hand; bsF: blocks of whoever called. -/
structure RelB (G : Globs) (w : World) (R : Own) (N : Name → Option Nat) (tmps : List Value) (s : AState) (cv : Value) (v : AVal) (bsV bsT bsL bsH bsF : List Nat) : Prop where
  val : RepV w R N v cv bsV
  tmps : RepVs w R N s.tmps tmps bsT
  locs : RepObjs w R N s.locs bsL
  heap : RepObjs w R (outs N) s.heap bsH
  nodup : (bsV ++ (bsT ++ (bsL ++ (bsH ++ bsF)))).Nodup
  next : ∀ o b, N (.out o) = some b → o < s.next
  glob : ∀ g cs, G g = some cs → RepAt w R g 0 cs
  frame : ∀ b ∈ bsF, b < w.heap.size

/-! ### What stays under a step -/

/-- A step that leaves the blocks bs as they are. -/
structure Keep (w : World) (R : Own) (w' : World) (R' : Own) (bs : List Nat) : Prop where
  step : Step w R w' R'
  same : ∀ b ∈ bs, b < w.heap.size → w'.heap[b]? = w.heap[b]? ∧ ∀ off, R b off → R' b off

theorem Keep.sub {w w' : World} {R R' : Own} {bs bs' : List Nat} (h : Keep w R w' R' bs) (hs : ∀ b ∈ bs', b ∈ bs) : Keep w R w' R' bs' :=
  ⟨h.step, fun b hb => h.same b (hs b hb)⟩

theorem lt_of_heap {w : World} {b : Nat} {o : Obj} (h : w.heap[b]? = some o) : b < w.heap.size := (Array.getElem?_eq_some_iff.1 h).1

theorem rowSize_of {w : World} {b : Nat} {vs : Array Value} {t : TypeId} {f : Nat × Nat} (h : w.heap[b]? = some (.cells vs t f)) : rowSize w b = vs.size := by simp [rowSize, h]
theorem rowSize_same {w w' : World} {b : Nat} (h : w'.heap[b]? = w.heap[b]?) : rowSize w' b = rowSize w b := by simp [rowSize, h]

theorem frozen_of_heap {w w' : World} {b off : Nat} (h : w'.heap[b]? = w.heap[b]?) : w'.frozen? ⟨b, off, none⟩ = w.frozen? ⟨b, off, none⟩ := by
  simp [World.frozen?, h]

theorem RepOwn.keep {w w' : World} {R R' : Own} {v : Value} {es : List Dat} {bs : List Nat} (h : RepOwn w R v es bs) (k : Keep w R w' R' bs) : RepOwn w' R' v es bs := by
  cases h with
  | nil => exact .nil
  | row b cap s es vs t hblk hs0 hs hcap he hin h hsp hty =>
    obtain ⟨e1, e2⟩ := k.same b (by simp) (lt_of_heap hblk)
    exact .row b cap s es vs t (e1.trans hblk) hs0 hs hcap he hin (h.step k.step) (fun x h1 h2 => e2 _ (hsp x h1 h2)) hty

section
variable {w w' : World} {R R' : Own} {N : Name → Option Nat}
mutual
theorem RepV.keep : ∀ {a : AVal} {v : Value} {bs : List Nat}, RepV w R N a v bs → Keep w R w' R' bs → RepV w' R' N a v bs
  | .dat _, _, _, h, k => by simp only [RepV] at h ⊢; exact ⟨h.1, h.2.step k.step⟩
  | .own _, _, _, h, k => by simp only [RepV] at h ⊢; exact h.keep k
  | .ref _, _, _, h, k => by
    simp only [RepV] at h ⊢
    obtain ⟨h1, b, off, e, h2⟩ := h
    exact ⟨h1, b, off, e, h2.step k.step⟩
  | .ptr _ _, _, _, h, _ => by simp only [RepV] at h ⊢; exact h
  | .map _, _, _, h, _ => by simp only [RepV] at h ⊢; exact h
  | .win _ _ _ _, _, _, h, k => by
    simp only [RepV] at h ⊢
    obtain ⟨h1, b, cap, h2, h3, h4, h5, h6, h7⟩ := h
    exact ⟨h1, b, cap, h2, h3, h4, h5, Nat.lt_of_lt_of_le h6 k.step.size, by rw [k.step.sizes b h6]; exact h7⟩
  | .fn _ first captured, _, _, h, k => by
    simp only [RepV] at h ⊢
    obtain ⟨h1, vs, us, e, h2, h3⟩ := h
    have k0 : Keep w R w' R' [] := k.sub (by simp)
    exact ⟨h1, vs, us, e, RepVs.keep (as := first) h2 k0, RepVs.keep (as := captured) h3 k0⟩
  | .agg cs, _, _, h, k => by
    simp only [RepV] at h ⊢
    obtain ⟨vs, e, h2⟩ := h
    exact ⟨vs, e, RepVs.keep (as := cs) h2 k⟩
  | .tup cs, _, _, h, k => by
    simp only [RepV] at h ⊢
    obtain ⟨vs, e, h2⟩ := h
    exact ⟨vs, e, RepVs.keep (as := cs) h2 k⟩
  | .undef, _, _, h, _ => by simp only [RepV] at h ⊢; exact h
theorem RepVs.keep : ∀ {as : List AVal} {vs : List Value} {bs : List Nat}, RepVs w R N as vs bs → Keep w R w' R' bs → RepVs w' R' N as vs bs
  | [], _, _, h, _ => by simp only [RepVs] at h ⊢; exact h
  | a :: as, _, _, h, k => by
    simp only [RepVs] at h ⊢
    obtain ⟨v, vs', b1, b2, e1, e2, h1, h2⟩ := h
    exact ⟨v, vs', b1, b2, e1, e2, RepV.keep (a := a) h1 (k.sub (by rw [e2]; intro b hb; simp [hb])), RepVs.keep (as := as) h2 (k.sub (by rw [e2]; intro b hb; simp [hb]))⟩
end

theorem RepMap.step (st : Step w R w' R') : ∀ {es : List (Value × Dat)} {ents : List MapEntry}, RepMap w R es ents → RepMap w' R' es ents
  | [], _, h => h
  | (_, _) :: _, _, ⟨e, es', h1, h2, h3, h4⟩ => ⟨e, es', h1, h2, h3.step st, RepMap.step st h4⟩

theorem RepObj.keep {o : AObj} {b : Nat} {bs : List Nat} (h : RepObj w R N o b bs) (k : Keep w R w' R' (b :: bs)) : RepObj w' R' N o b bs := by
  cases o with
  | cells cs =>
    obtain ⟨vs, elem, sp, hb, hr, hR, hsh⟩ := h
    obtain ⟨e1, e2⟩ := k.same b (by simp) (lt_of_heap hb)
    exact ⟨vs, elem, sp, e1.trans hb, hr.keep (k.sub (by intro x hx; simp [hx])), fun j hj => e2 _ (hR j hj), hsh⟩
  | map es =>
    obtain ⟨hbs, hR, ents, clock, hb, hr, hbo⟩ := h
    obtain ⟨e1, e2⟩ := k.same b (by simp) (lt_of_heap hb)
    exact ⟨hbs, e2 _ hR, ents, clock, e1.trans hb, hr.step k.step, hbo⟩

theorem RepObjs.keep : ∀ {os : List (Name × AObj)} {bs : List Nat}, RepObjs w R N os bs → Keep w R w' R' bs → RepObjs w' R' N os bs
  | [], _, h, _ => h
  | (_, _) :: _, _, ⟨b, b1, b2, e, hN, h1, h2⟩, k =>
    ⟨b, b1, b2, e, hN, h1.keep (k.sub (by rw [e]; intro x hx; simp at hx ⊢; rcases hx with h | h <;> simp [h])), RepObjs.keep h2 (k.sub (by rw [e]; intro x hx; simp [hx]))⟩
end

/-! ### A slot of the frame -/

theorem RepVs.length {w : World} {R : Own} {N : Name → Option Nat} : ∀ {as : List AVal} {vs : List Value} {bs : List Nat}, RepVs w R N as vs bs → vs.length = as.length
  | [], _, _, h => by simp only [RepVs] at h; simp [h.1]
  | _ :: _, _, _, h => by
    simp only [RepVs] at h
    obtain ⟨v, vs', b1, b2, e1, e2, h1, h2⟩ := h
    simp [e1, h2.length]

theorem RepVs.split {w : World} {R : Own} {N : Name → Option Nat} : ∀ {as : List AVal} {vs : List Value} {bs : List Nat} {t : Nat} {a : AVal}, RepVs w R N as vs bs → as[t]? = some a →
    ∃ pre bt post v, bs = pre ++ bt ++ post ∧ vs[t]? = some v ∧ RepV w R N a v bt ∧
      ∀ (w' : World) (R' : Own) (a' : AVal) (v' : Value) (b' : List Nat), Keep w R w' R' (pre ++ post) → RepV w' R' N a' v' b' → RepVs w' R' N (as.set t a') (vs.set t v') (pre ++ b' ++ post)
  | [], _, _, _, _, _, ht => by simp at ht
  | x :: as, vs, bs, 0, a, h, ht => by
    simp only [RepVs] at h
    obtain ⟨v, vs', b1, b2, e1, e2, h1, h2⟩ := h
    simp at ht
    subst ht
    refine ⟨[], b1, b2, v, by simpa using e2, by simp [e1], h1, fun w' R' a' v' b' k hr => ?_⟩
    subst e1
    simp only [List.set_cons_zero, RepVs]
    exact ⟨v', vs', b', b2, rfl, by simp, hr, h2.keep (k.sub (by simp))⟩
  | x :: as, vs, bs, t + 1, a, h, ht => by
    simp only [RepVs] at h
    obtain ⟨v, vs', b1, b2, e1, e2, h1, h2⟩ := h
    simp at ht
    obtain ⟨pre, bt, post, u, f1, f2, f3, f4⟩ := RepVs.split h2 ht
    refine ⟨b1 ++ pre, bt, post, u, by simp [e2, f1], by simp [e1, f2], f3, fun w' R' a' v' b' k hr => ?_⟩
    subst e1
    simp only [List.set_cons_succ, RepVs]
    exact ⟨v, _, b1, pre ++ b' ++ post, rfl, by simp, h1.keep (k.sub (by intro b hb; simp [hb])), f4 w' R' a' v' b' (k.sub (by intro b hb; simp at hb ⊢; rcases hb with h | h <;> simp [h])) hr⟩

/-! ### The objects -/
def aget (n : Name) : List (Name × AObj) → Option AObj
  | [] => none
  | (m, o) :: rest => if m = n then some o else aget n rest

def aset (n : Name) (o' : AObj) : List (Name × AObj) → List (Name × AObj)
  | [] => []
  | (m, o) :: rest => if m = n then (m, o') :: rest else (m, o) :: aset n o' rest

def adel (n : Name) : List (Name × AObj) → List (Name × AObj)
  | [] => []
  | (m, o) :: r => if m = n then adel n r else (m, o) :: adel n r

theorem RepObjs.split {w : World} {R : Own} {N : Name → Option Nat} : ∀ {os : List (Name × AObj)} {bs : List Nat} {n : Name} {o : AObj}, RepObjs w R N os bs → aget n os = some o →
    ∃ pre b b1 post, bs = pre ++ (b :: b1) ++ post ∧ N n = some b ∧ RepObj w R N o b b1 ∧
      ∀ (w' : World) (R' : Own) (o' : AObj) (b1' : List Nat), Keep w R w' R' (pre ++ post) → RepObj w' R' N o' b b1' → RepObjs w' R' N (aset n o' os) (pre ++ (b :: b1') ++ post)
  | [], _, _, _, _, h => by simp [aget] at h
  | (m, x) :: os, bs, n, o, h, hg => by
    obtain ⟨b, b1, b2, e, hN, h1, h2⟩ := h
    simp only [aget] at hg
    split at hg
    · rename_i hm
      subst hm
      simp at hg
      subst hg
      refine ⟨[], b, b1, b2, by simp [e], hN, h1, fun w' R' o' b1' k hr => ?_⟩
      simp only [aset, if_true]
      exact ⟨b, b1', b2, by simp, hN, hr, h2.keep (k.sub (by simp))⟩
    · rename_i hm
      obtain ⟨pre, c, c1, post, f1, f2, f3, f4⟩ := RepObjs.split h2 hg
      refine ⟨b :: (b1 ++ pre), c, c1, post, by simp [e, f1], f2, f3, fun w' R' o' b1' k hr => ?_⟩
      simp only [aset, if_neg hm]
      exact ⟨b, b1, pre ++ (c :: b1') ++ post, by simp, hN, h1.keep (k.sub (by intro y hy; simp at hy ⊢; rcases hy with h | h <;> simp [h])),
        f4 w' R' o' b1' (k.sub (by intro y hy; simp at hy ⊢; rcases hy with h | h <;> simp [h])) hr⟩
end Go.Tp
