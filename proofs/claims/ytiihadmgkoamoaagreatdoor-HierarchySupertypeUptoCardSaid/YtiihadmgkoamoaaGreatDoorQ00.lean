/- HierarchySupertype returns true and changes nothing, for arguments of bulk at most 1048576 (the card of the second form; conditions: those of the given row). Names are shortened by a program, for the claim's bound. Part 0. -/
import Derived.Orders
import Derived.Laws.Cells
import Derived.Laws.World
import Derived.Laws.Rows
import Derived.Laws.Closers25b
import Derived.Laws.Sem
import Derived.Laws.BytesString
import Derived.Laws.Tables
import Derived.Great.FillDense
import Derived.Great.BuildSlice
import Derived.Laws.AppendOwn
import Derived.Deep.AppendSrc
set_option linter.unusedVariables false
set_option linter.unusedSimpArgs false
set_option maxRecDepth 100000
set_option maxHeartbeats 4000000
namespace Go.Tp
/-! ### Pure data -/
/-- Data without addresses: scalars, slices as lists of elements, structs as flattened cells. -/
inductive an where
 |flat (v : Value)
 |slice (es : List an)
 |agg (cs : List an)
 deriving Inhabited
def an.cells : an -> List an
 | .agg cs => cs
 | .flat v => [.flat v]
 | .slice es => [.slice es]
/-- A value of one cell that holds no address. -/
def bV : Value -> Bool
 | .int k n => decide (k.min <= n) && decide (n <= k.max)
 | .string s => decide (s.size <= 9223372036854775807)
 | .bool _ | .float _ _ | .complex _ _ _ | .pointer none | .map none | .chan none | .nilFunc | .nilIface => true
 | .iface _ v => bV v
 | .slice none 0 0 => true
 | _ => false
/-- No row has more room. -/
def iD : Nat := 9223372036854775807
/-- No slice that is read has more elements. -/
def jv : Nat := 68719476736
/-- The writable cells. -/
abbrev Own := Nat -> Nat -> Prop
/-- The value of one cell reads as the datum; all that it reaches lies outside R. -/
inductive ep (w : World) (R : Own) : Value -> an -> Prop
 |flat {v : Value} (h : bV v = true) : ep w R v (.flat v)
 |nil (a : Option Addr) (cap : Nat) : ep w R (.slice a 0 cap) (.slice [])
 |slice (b off cap s : Nat) (es : List an) (vs : Nat -> Nat -> Value) (hs : 0 < s) (hlen : ∀ e ∈ es, e.cells.length = s)
   (hcap : es.length <= cap) (hb : es.length <= jv)
   (hcell : ∀ i j, i < es.length -> j < s -> w.cell? ⟨b, off + i * s + j, none⟩ = some (vs i j) /\ ¬ R b (off + i * s + j))
   (hrep : ∀ i j (e c : an), es[i]? = some e -> e.cells[j]? = some c -> ep w R (vs i j) c) :
   ep w R (.slice (some ⟨b, off, none⟩) es.length cap) (.slice es)
/-- Cells in a row. -/
def cR (w : World) (R : Own) : List Value -> List an -> Prop
 | [], [] => True
 | v :: vs, c :: cs => ep w R v c /\ cR w R vs cs
 | _, _ => False
/-- A value (of one or more cells) reads as the datum. -/
def ss (w : World) (R : Own) (v : Value) : an -> Prop
 | .agg cs => ∃ vs : List Value, v = .agg vs.toArray /\ cR w R vs cs
 | .flat u => ep w R v (.flat u)
 | .slice es => ep w R v (.slice es)
/-- Immutable cells from an address on. -/
def dE (w : World) (R : Own) (b off : Nat) : List an -> Prop
 | [] => True
 | c :: cs => (∃ v, w.cell? ⟨b, off, none⟩ = some v /\ ¬ R b off /\ ep w R v c) /\ dE w R b (off + 1) cs
/-- How many cells a block has. -/
def dQ (w : World) (b : Nat) : Nat := match w.heap[b]? with | some (.cells vs _ _) => vs.size | _ => 0
/-- What is outside R stays, and stays outside. -/
structure Step (w : World) (R : Own) (w' : World) (R' : Own) : Prop where
 os : w'.os = w.os
 tape : w'.tape = w.tape
 output : w'.output = w.output
 size : w.heap.size <= w'.heap.size
 block : ∀ b, b < w.heap.size -> (∀ off, ¬ R b off) -> w'.heap[b]? = w.heap[b]? /\ ∀ off, ¬ R' b off
 cell : ∀ b off, b < w.heap.size -> ¬ R b off -> ¬ R' b off /\ w'.cell? ⟨b, off, none⟩ = w.cell? ⟨b, off, none⟩
 sizes : ∀ b, b < w.heap.size -> dQ w' b = dQ w b
theorem Step.refl (w : World) (R : Own) : Step w R w R :=
 ⟨rfl, rfl, rfl, Nat.le_refl _, fun _ _ h => ⟨rfl, h⟩, fun _ _ _ h => ⟨h, rfl⟩, fun _ _ => rfl⟩
theorem Step.trans {w w1 w2 : World} {R R1 R2 : Own} (h : Step w R w1 R1) (k : Step w1 R1 w2 R2) : Step w R w2 R2 where
 os := k.os.trans h.os
 tape := k.tape.trans h.tape
 output := k.output.trans h.output
 size := Nat.le_trans h.size k.size
 block b hb hR := by
  obtain ⟨e1, h1⟩ := h.block b hb hR
  obtain ⟨e2, h2⟩ := k.block b (Nat.lt_of_lt_of_le hb h.size) h1
  exact ⟨e2.trans e1, h2⟩
 cell b off hb hR := by
  obtain ⟨h1, e1⟩ := h.cell b off hb hR
  obtain ⟨h2, e2⟩ := k.cell b off (Nat.lt_of_lt_of_le hb h.size) h1
  exact ⟨h2, e2.trans e1⟩
 sizes b hb := (k.sizes b (Nat.lt_of_lt_of_le hb h.size)).trans (h.sizes b hb)
theorem xI {w : World} {b off : Nat} {v : Value} (h : w.cell? ⟨b, off, none⟩ = some v) : b < w.heap.size :=
 block_lt_of_cell (a := ⟨b, off, none⟩) h
theorem ep.step {w w' : World} {R R' : Own} (st : Step w R w' R') {v : Value} {d : an} (h : ep w R v d) : ep w' R' v d := by
 induction h with
 | flat h => exact .flat h
 | nil a cap => exact .nil a cap
 | slice b off cap s es vs hs hlen hcap hb hcell _ ih =>
  refine .slice b off cap s es vs hs hlen hcap hb (fun i j hi hj => ?_) ih
  obtain ⟨hc, hR⟩ := hcell i j hi hj
  obtain ⟨h1, h2⟩ := st.cell b _ (xI hc) hR
  exact ⟨h2.trans hc, h1⟩
theorem cR.step {w w' : World} {R R' : Own} (st : Step w R w' R') : ∀ {vs : List Value} {cs : List an}, cR w R vs cs -> cR w' R' vs cs
 | [], [], _ => trivial
 | _ :: _, _ :: _, h => ⟨h.1.step st, cR.step st h.2⟩
 | [], _ :: _, h => h.elim
 | _ :: _, [], h => h.elim
theorem ss.step {w w' : World} {R R' : Own} (st : Step w R w' R') {v : Value} : ∀ {d : an}, ss w R v d -> ss w' R' v d
 | .agg _, ⟨vs, e, h⟩ => ⟨vs, e, h.step st⟩
 | .flat _, h => ep.step st h
 | .slice _, h => ep.step st h
theorem dE.step {w w' : World} {R R' : Own} (st : Step w R w' R') {b : Nat} : ∀ {off : Nat} {cs : List an}, dE w R b off cs -> dE w' R' b off cs
 | _, [], _ => trivial
 | off, _ :: _, ⟨⟨v, hc, hR, hr⟩, ht⟩ => by
  obtain ⟨h1, h2⟩ := st.cell b off (xI hc) hR
  exact ⟨⟨v, h2.trans hc, h1, hr.step st⟩, dE.step st ht⟩
/-! ### Abstract values -/
/-- Names of mutable objects: of the frame (by the slot that made them), and of the rest. -/
inductive Name where
 |loc (i : Nat)
 |out (o : Nat)
 deriving DecidableEq, Inhabited
inductive ac where
 |dat (d : an)
 /-- a slice whose spare capacity nobody else may write -/
 |own (es : List an)
 /-- a pointer to immutable cells -/
 |ref (cs : List an)
 |ptr (n : Name) (off : Nat)
 |map (n : Name)
 /-- a slice whose elements, of s cells each, lie in the object n from the cell off on -/
 |win (n : Name) (s off len : Nat)
 |fn (f : Fn) (first captured : List ac)
 |agg (cs : List ac)
 |tup (vs : List ac)
 |undef
 deriving Inhabited
inductive aN where
 |cells (cs : List ac)
 |map (es : List (Value × an))
 deriving Inhabited
/-- A frame's state: its slots, its own objects (named by slots), the other objects, the next free name of these. -/
structure aa where
 tmps : List ac
 locs : List (Name × aN)
 heap : List (Name × aN)
 next : Nat
/-- The numbers of the types uint8 and strings.Builder: a seat's own. -/
def tH : TypeId := 5
def O6 : TypeId := 102
def eY : List an -> Bool
 | .flat (.int .u8 _) :: _ => true
 | _ => false
def Al : ac -> Bool
 | .dat (.flat (.pointer none)) => true
 | .ptr _ _ => true
 | _ => false
/-- The cells of a strings.Builder, or of what looks like one. -/
def cK : List ac -> Bool
 | [p, .own _] => Al p
 | [p, .dat (.slice _)] => Al p
 | [p, .dat (.flat (.slice none 0 0))] => Al p
 | _ => false
/-- An owned slice: nil, or a row of a block whose spare cells are writable and nobody else's. -/
inductive hJ (w : World) (R : Own) : Value -> List an -> List Nat -> Prop
 |nil : hJ w R (.slice none 0 0) [] []
 |row (b cap s : Nat) (es : List an) (vs : Array Value) (t : TypeId) (hblk : w.heap[b]? = some (.cells vs t (0, 0)))
   (hs0 : 0 < s) (hs : ∀ e ∈ es, e.cells.length = s) (hcap : es.length <= cap) (he : es = [] -> cap = 0) (hin : cap * s <= vs.size)
   (h : ep w R (.slice (some ⟨b, 0, none⟩) es.length cap) (.slice es))
   (hsp : ∀ x, es.length * s <= x -> x < cap * s ∨ vs.size <= x -> R b x) (hty : eY es = true -> t = tH) :
   hJ w R (.slice (some ⟨b, 0, none⟩) es.length cap) es [b]
/-- The stamps of a map's entries: earlier than the map's clock, and no two alike. -/
def vl (ents : Array MapEntry) (clock : Nat) : Prop := (∀ x ∈ ents.toList, x.born < clock) /\ (ents.toList.map (·.born)).Nodup
section
variable (w : World) (R : Own) (N : Name -> Option Nat)
mutual
def ak : ac -> Value -> List Nat -> Prop
 | .dat d, v, bs => bs = [] /\ ss w R v d
 | .own es, v, bs => hJ w R v es bs
 | .ref cs, v, bs => bs = [] /\ ∃ b off, v = .pointer (some ⟨b, off, none⟩) /\ dE w R b off cs
 | .ptr n off, v, bs => bs = [] /\ ∃ b, N n = some b /\ v = .pointer (some ⟨b, off, none⟩)
 | .map n, v, bs => bs = [] /\ ∃ b, N n = some b /\ v = .map (some b)
 | .win n s off len, v, bs => bs = [] /\ ∃ b cap, N n = some b /\ v = .slice (some ⟨b, off, none⟩) len cap /\ len <= cap /\ (0 < s /\ cap <= iD) /\ b < w.heap.size /\ off + cap * s = dQ w b
 | .fn f first captured, v, bs => bs = [] /\ ∃ vs us, v = .func f vs.toArray us.toArray /\ ag first vs [] /\ ag captured us []
 | .agg cs, v, bs => ∃ vs, v = .agg vs.toArray /\ ag cs vs bs
 | .tup cs, v, bs => ∃ vs, v = .tuple vs.toArray /\ ag cs vs bs
 | .undef, _, bs => bs = []
def ag : List ac -> List Value -> List Nat -> Prop
 | [], vs, bs => vs = [] /\ bs = []
 | a :: as, vs, bs => ∃ v vs' b1 b2, vs = v :: vs' /\ bs = b1 ++ b2 /\ ak a v b1 /\ ag as vs' b2
end
def dg : List (Value × an) -> List MapEntry -> Prop
 | [], es => es = []
 |(k, d) :: rest, es => ∃ e es', es = e :: es' /\ e.key = k /\ ss w R e.val d /\ dg rest es'
def aQ : aN -> Nat -> List Nat -> Prop
 | .cells cs, b, bs => ∃ vs elem sp, w.heap[b]? = some (.cells vs elem (0, 0)) /\ ag w R N (cs ++ List.replicate sp .undef) vs.toList bs /\ (∀ j, j < vs.size -> R b j) /\ (cK cs = true -> elem = O6 /\ sp = 0)
 | .map es, b, bs => bs = [] /\ R b 0 /\ ∃ ents clock, w.heap[b]? = some (.map ents clock) /\ dg w R es ents.toList /\ vl ents clock
def al : List (Name × aN) -> List Nat -> Prop
 | [], bs => bs = []
 |(n, o) :: rest, bs => ∃ b b1 b2, bs = b :: (b1 ++ b2) /\ N n = some b /\ aQ w R N o b b1 /\ al rest b2
end
/-- The package-level variables that are read as immutable cells. -/
abbrev bF := Nat -> Option (List an)
/-- The names that are not a frame's own. -/
def outs (N : Name -> Option Nat) : Name -> Option Nat
 | .loc _ => none
 | .out o => N (.out o)
/-- The relation of a frame's state to the world, a value in hand; bsF: blocks of whoever called. -/
structure cS (G : bF) (w : World) (R : Own) (N : Name -> Option Nat) (tmps : List Value) (s : aa) (cv : Value) (v : ac) (bsV bsT bsL bsH bsF : List Nat) : Prop where
 val : ak w R N v cv bsV
 tmps : ag w R N s.tmps tmps bsT
 locs : al w R N s.locs bsL
 heap : al w R (outs N) s.heap bsH
 nodup : (bsV ++ (bsT ++ (bsL ++ (bsH ++ bsF)))).Nodup
 next : ∀ o b, N (.out o) = some b -> o < s.next
 glob : ∀ g cs, G g = some cs -> dE w R g 0 cs
 frame : ∀ b ∈ bsF, b < w.heap.size
/-! ### What stays under a step -/
/-- A step that leaves the blocks bs as they are. -/
structure bz (w : World) (R : Own) (w' : World) (R' : Own) (bs : List Nat) : Prop where
 step : Step w R w' R'
 same : ∀ b ∈ bs, b < w.heap.size -> w'.heap[b]? = w.heap[b]? /\ ∀ off, R b off -> R' b off
theorem bz.sub {w w' : World} {R R' : Own} {bs bs' : List Nat} (h : bz w R w' R' bs) (hs : ∀ b ∈ bs', b ∈ bs) : bz w R w' R' bs' :=
 ⟨h.step, fun b hb => h.same b (hs b hb)⟩
theorem bH {w : World} {b : Nat} {o : Obj} (h : w.heap[b]? = some o) : b < w.heap.size := (Array.getElem?_eq_some_iff.1 h).1
theorem dV {w : World} {b : Nat} {vs : Array Value} {t : TypeId} {f : Nat × Nat} (h : w.heap[b]? = some (.cells vs t f)) : dQ w b = vs.size := by simp [dQ, h]
theorem lS {w w' : World} {b : Nat} (h : w'.heap[b]? = w.heap[b]?) : dQ w' b = dQ w b := by simp [dQ, h]
theorem hJ.keep {w w' : World} {R R' : Own} {v : Value} {es : List an} {bs : List Nat} (h : hJ w R v es bs) (k : bz w R w' R' bs) : hJ w' R' v es bs := by
 cases h with
 | nil => exact .nil
 | row b cap s es vs t hblk hs0 hs hcap he hin h hsp hty =>
  obtain ⟨e1, e2⟩ := k.same b (by simp) (bH hblk)
  exact .row b cap s es vs t (e1.trans hblk) hs0 hs hcap he hin (h.step k.step) (fun x h1 h2 => e2 _ (hsp x h1 h2)) hty
section
variable {w w' : World} {R R' : Own} {N : Name -> Option Nat}
mutual
theorem ak.keep : ∀ {a : ac} {v : Value} {bs : List Nat}, ak w R N a v bs -> bz w R w' R' bs -> ak w' R' N a v bs
 | .dat _, _, _, h, k => by simp only [ak] at h ⊢; exact ⟨h.1, h.2.step k.step⟩
 | .own _, _, _, h, k => by simp only [ak] at h ⊢; exact h.keep k
 | .ref _, _, _, h, k => by
  simp only [ak] at h ⊢
  obtain ⟨h1, b, off, e, h2⟩ := h
  exact ⟨h1, b, off, e, h2.step k.step⟩
 | .ptr _ _, _, _, h, _ => by simp only [ak] at h ⊢; exact h
 | .map _, _, _, h, _ => by simp only [ak] at h ⊢; exact h
 | .win _ _ _ _, _, _, h, k => by
  simp only [ak] at h ⊢
  obtain ⟨h1, b, cap, h2, h3, h4, h5, h6, h7⟩ := h
  exact ⟨h1, b, cap, h2, h3, h4, h5, Nat.lt_of_lt_of_le h6 k.step.size, by rw [k.step.sizes b h6]; exact h7⟩
 | .fn _ first captured, _, _, h, k => by
  simp only [ak] at h ⊢
  obtain ⟨h1, vs, us, e, h2, h3⟩ := h
  have k0 : bz w R w' R' [] := k.sub (by simp)
  exact ⟨h1, vs, us, e, ag.keep (as := first) h2 k0, ag.keep (as := captured) h3 k0⟩
 | .agg cs, _, _, h, k => by
  simp only [ak] at h ⊢
  obtain ⟨vs, e, h2⟩ := h
  exact ⟨vs, e, ag.keep (as := cs) h2 k⟩
 | .tup cs, _, _, h, k => by
  simp only [ak] at h ⊢
  obtain ⟨vs, e, h2⟩ := h
  exact ⟨vs, e, ag.keep (as := cs) h2 k⟩
 | .undef, _, _, h, _ => by simp only [ak] at h ⊢; exact h
theorem ag.keep : ∀ {as : List ac} {vs : List Value} {bs : List Nat}, ag w R N as vs bs -> bz w R w' R' bs -> ag w' R' N as vs bs
 | [], _, _, h, _ => by simp only [ag] at h ⊢; exact h
 | a :: as, _, _, h, k => by
  simp only [ag] at h ⊢
  obtain ⟨v, vs', b1, b2, e1, e2, h1, h2⟩ := h
  exact ⟨v, vs', b1, b2, e1, e2, ak.keep (a := a) h1 (k.sub (by rw [e2]; intro b hb; simp [hb])), ag.keep (as := as) h2 (k.sub (by rw [e2]; intro b hb; simp [hb]))⟩
end
theorem dg.step (st : Step w R w' R') : ∀ {es : List (Value × an)} {ents : List MapEntry}, dg w R es ents -> dg w' R' es ents
 | [], _, h => h
 |(_, _) :: _, _, ⟨e, es', h1, h2, h3, h4⟩ => ⟨e, es', h1, h2, h3.step st, dg.step st h4⟩
theorem aQ.keep {o : aN} {b : Nat} {bs : List Nat} (h : aQ w R N o b bs) (k : bz w R w' R' (b :: bs)) : aQ w' R' N o b bs := by
 cases o with
 | cells cs =>
  obtain ⟨vs, elem, sp, hb, hr, hR, hsh⟩ := h
  obtain ⟨e1, e2⟩ := k.same b (by simp) (bH hb)
  exact ⟨vs, elem, sp, e1.trans hb, hr.keep (k.sub (by intro x hx; simp [hx])), fun j hj => e2 _ (hR j hj), hsh⟩
 | map es =>
  obtain ⟨hbs, hR, ents, clock, hb, hr, hbo⟩ := h
  obtain ⟨e1, e2⟩ := k.same b (by simp) (bH hb)
  exact ⟨hbs, e2 _ hR, ents, clock, e1.trans hb, hr.step k.step, hbo⟩
theorem al.keep : ∀ {os : List (Name × aN)} {bs : List Nat}, al w R N os bs -> bz w R w' R' bs -> al w' R' N os bs
 | [], _, h, _ => h
 |(_, _) :: _, _, ⟨b, b1, b2, e, hN, h1, h2⟩, k =>
  ⟨b, b1, b2, e, hN, h1.keep (k.sub (by rw [e]; intro x hx; simp at hx ⊢; rcases hx with h | h <;> simp [h])), al.keep h2 (k.sub (by rw [e]; intro x hx; simp [hx]))⟩
end
/-! ### A slot of the frame -/
theorem ag.length {w : World} {R : Own} {N : Name -> Option Nat} : ∀ {as : List ac} {vs : List Value} {bs : List Nat}, ag w R N as vs bs -> vs.length = as.length
 | [], _, _, h => by simp only [ag] at h; simp [h.1]
 | _ :: _, _, _, h => by
  simp only [ag] at h
  obtain ⟨v, vs', b1, b2, e1, e2, h1, h2⟩ := h
  simp [e1, h2.length]
theorem ag.split {w : World} {R : Own} {N : Name -> Option Nat} : ∀ {as : List ac} {vs : List Value} {bs : List Nat} {t : Nat} {a : ac}, ag w R N as vs bs -> as[t]? = some a ->
  ∃ pre bt post v, bs = pre ++ bt ++ post /\ vs[t]? = some v /\ ak w R N a v bt ∧
   ∀ (w' : World) (R' : Own) (a' : ac) (v' : Value) (b' : List Nat), bz w R w' R' (pre ++ post) -> ak w' R' N a' v' b' -> ag w' R' N (as.set t a') (vs.set t v') (pre ++ b' ++ post)
 | [], _, _, _, _, _, ht => by simp at ht
 | x :: as, vs, bs, 0, a, h, ht => by
  simp only [ag] at h
  obtain ⟨v, vs', b1, b2, e1, e2, h1, h2⟩ := h
  simp at ht
  subst ht
  refine ⟨[], b1, b2, v, by simpa using e2, by simp [e1], h1, fun w' R' a' v' b' k hr => ?_⟩
  subst e1
  simp only [List.set_cons_zero, ag]
  exact ⟨v', vs', b', b2, rfl, by simp, hr, h2.keep (k.sub (by simp))⟩
 | x :: as, vs, bs, t + 1, a, h, ht => by
  simp only [ag] at h
  obtain ⟨v, vs', b1, b2, e1, e2, h1, h2⟩ := h
  simp at ht
  obtain ⟨pre, bt, post, u, f1, f2, f3, f4⟩ := ag.split h2 ht
  refine ⟨b1 ++ pre, bt, post, u, by simp [e2, f1], by simp [e1, f2], f3, fun w' R' a' v' b' k hr => ?_⟩
  subst e1
  simp only [List.set_cons_succ, ag]
  exact ⟨v, _, b1, pre ++ b' ++ post, rfl, by simp, h1.keep (k.sub (by intro b hb; simp [hb])), f4 w' R' a' v' b' (k.sub (by intro b hb; simp at hb ⊢; rcases hb with h | h <;> simp [h])) hr⟩
/-! ### The objects -/
def dM (n : Name) : List (Name × aN) -> Option aN
 | [] => none
 |(m, o) :: rest => if m = n then some o else dM n rest
def hZ (n : Name) (o' : aN) : List (Name × aN) -> List (Name × aN)
 | [] => []
 |(m, o) :: rest => if m = n then (m, o') :: rest else (m, o) :: hZ n o' rest
def ji (n : Name) : List (Name × aN) -> List (Name × aN)
 | [] => []
 |(m, o) :: r => if m = n then ji n r else (m, o) :: ji n r
theorem al.split {w : World} {R : Own} {N : Name -> Option Nat} : ∀ {os : List (Name × aN)} {bs : List Nat} {n : Name} {o : aN}, al w R N os bs -> dM n os = some o ->
  ∃ pre b b1 post, bs = pre ++ (b :: b1) ++ post /\ N n = some b /\ aQ w R N o b b1 ∧
   ∀ (w' : World) (R' : Own) (o' : aN) (b1' : List Nat), bz w R w' R' (pre ++ post) -> aQ w' R' N o' b b1' -> al w' R' N (hZ n o' os) (pre ++ (b :: b1') ++ post)
 | [], _, _, _, _, h => by simp [dM] at h
 |(m, x) :: os, bs, n, o, h, hg => by
  obtain ⟨b, b1, b2, e, hN, h1, h2⟩ := h
  simp only [dM] at hg
  split at hg
  ·rename_i hm
   subst hm
   simp at hg
   subst hg
   refine ⟨[], b, b1, b2, by simp [e], hN, h1, fun w' R' o' b1' k hr => ?_⟩
   simp only [hZ, if_true]
   exact ⟨b, b1', b2, by simp, hN, hr, h2.keep (k.sub (by simp))⟩
  rename_i hm
  obtain ⟨pre, c, c1, post, f1, f2, f3, f4⟩ := al.split h2 hg
  refine ⟨b :: (b1 ++ pre), c, c1, post, by simp [e, f1], f2, f3, fun w' R' o' b1' k hr => ?_⟩
  simp only [hZ, if_neg hm]
  exact ⟨b, b1, pre ++ (c :: b1') ++ post, by simp, hN, h1.keep (k.sub (by intro y hy; simp at hy ⊢; rcases hy with h | h <;> simp [h])),
   f4 w' R' o' b1' (k.sub (by intro y hy; simp at hy ⊢; rcases hy with h | h <;> simp [h])) hr⟩
end Go.Tp

namespace Go.Tp
/-! ### Types -/
inductive TD where
 |bool | int (k : IntKind) | string | pointer | slice (elem : TypeId) | map (key elem : TypeId) | func
 |struct (fields : List (Nat × TypeId))
 |array (len : Nat) (elem : TypeId)
 deriving Inhabited
structure TI where
 desc : TD
 size : Nat
 bytes : Nat
 zero : Value
 deriving Inhabited
/-- What is reckoned on data; a variable while code is run. -/
structure az where
 wrap : IntKind -> Int -> Int
 add : IntKind -> Int -> Int -> Int
 dif : IntKind -> Int -> Int -> Int
 mul : IntKind -> Int -> Int -> Int
 lt : Int -> Int -> Bool
 eq : Int -> Int -> Bool
 slt : ByteArray -> ByteArray -> Bool
 seq : ByteArray -> ByteArray -> Bool
 cat : ByteArray -> ByteArray -> Option ByteArray
 elt : List an -> Int -> Option an
 byte : ByteArray -> Int -> Option UInt8
 sub : Nat -> List an -> Option Int -> Option Int -> Option (List an)
 ssub : ByteArray -> Option Int -> Option Int -> Option ByteArray
 app : Nat -> Nat -> List an -> List an -> Option (List an)
 key : TypeDesc -> Value -> List (Value × an) -> Option (Option (Nat × an))
 len : List an -> Nat
 slen : ByteArray -> Nat
 rem : Int -> Int -> Int
 quo : Int -> Int -> Int
 mx : Int -> Int -> Int
/-- The types, and the functions that have a body. -/
structure bw where
 ty : TypeId -> Option TI
 fn : FuncId -> Bool
 pr : az
def findKey (td : TypeDesc) (k : Value) : List (Value × an) -> Nat -> Option (Option (Nat × an))
 | [], _ => some none
 |(x, d) :: es, i =>
  match Instr.sameNow td k x with
  | some true => some (some (i, d))
  | some false => findKey td k es (i + 1)
  | none => none
def Wx (i : Int) : Option Nat := if 0 <= i then some i.toNat else none
def dC (v : Option Int) (dflt : Nat) : Option Nat :=
 match v with
 | none => some dflt
 | some i => Wx i
def az.ln : az where
 wrap := IntKind.wrap
 add k a b := k.wrap (a + b)
 dif k a b := k.wrap (a - b)
 mul k a b := k.wrap (a * b)
 lt a b := decide (a < b)
 eq a b := a == b
 slt x y := Op.bytesLess x.toList y.toList
 seq x y := x.toList == y.toList
 cat x y := if ((x.size + y.size : Nat) : Int) > IntKind.i64.max then none else some (x ++ y)
 elt es i := if 0 <= i then es[i.toNat]? else none
 byte s i := if 0 <= i then s[i.toNat]? else none
 sub size es lo hi := if (∀ d ∈ es, d.cells.length = size) /\ 0 < size then
   (match dC hi es.length, dC lo 0 with
   | some h, some l => if l <= h /\ h <= es.length then some ((es.take h).drop l) else none
   | _, _ => none) else none
 ssub s lo hi := match dC hi s.size, dC lo 0 with
   | some h, some l => if l <= h /\ h <= s.size then some (s.extract l h) else none
   | _, _ => none
 app size bytes es ds := match size with
   | 0 => none
   | _ => if (∀ d ∈ ds, d.cells.length = size) /\ (∀ d ∈ es, d.cells.length = size) /\ 0 < bytes /\ (es.length + ds.length) * bytes <= 140737488355328 /\ es.length + ds.length <= jv then some (es ++ ds) else none
 key td k es := findKey td k es 0
 len := List.length
 slen := ByteArray.size
 rem := Int.tmod
 quo := Int.tdiv
 mx x y := if x < y then y else x
def TI.ok (P : Program) (t : TypeId) (i : TI) : Prop :=
 (∃ j, P.info? t = some j /\ j.size = i.size /\ j.bytes = i.bytes /\ j.zero = some i.zero /\ i.zero.cells.size = i.size) ∧
 match i.desc with
 | .bool => P.underlying t = some .bool
 | .int k => P.underlying t = some (.int k)
 | .string => P.underlying t = some .string
 | .pointer => ∃ e, P.underlying t = some (.pointer e)
 | .slice e => P.underlying t = some (.slice e)
 | .map k e => P.underlying t = some (.map k e)
 | .func => ∃ a b c, P.underlying t = some (.func a b c)
 | .array n e => P.underlying t = some (.array n e)
 | .struct fs => ∃ fields : Array Field, P.underlying t = some (.struct fields) /\ fields.toList.map (fun f => (f.offset, f.type)) = fs ∧
   ∃ places, fields.toList.mapM (fun f => (P.info? f.type).map fun i => (f.offset, i.size)) = some places
structure bw.Ok (E : bw) (P : Program) : Prop where
 ty : ∀ t i, E.ty t = some i -> i.ok P t
 fn : ∀ f, E.fn f = true -> ∃ g, P.funcs[f]? = some g /\ g.body.isSome = true /\ (g.name == "runtime.NumGoroutine") = false
 mixed : P.follows .mixedOrders = true
 ln : E.pr = az.ln
/-! ### Values -/
/-- A copy: ownership stays where it is. -/
def bj : List ac -> List ac
 | [] => []
 | .own es :: r => .dat (.slice es) :: bj r
 | .agg _ :: r => .undef :: bj r
 | .tup _ :: r => .undef :: bj r
 | a :: r => a :: bj r
/-- The cells of data, if all are data of one cell. -/
def fF : List ac -> Option (List an)
 | [] => some []
 | .dat (.flat v) :: r => match fF r with | some ds => some (.flat v :: ds) | none => none
 | .dat (.slice es) :: r => match fF r with | some ds => some (.slice es :: ds) | none => none
 | _ :: _ => none
def jl (cs : List ac) : ac :=
 match fF cs with
 | some ds => .dat (.agg ds)
 | none => .agg cs
def ff : List ac -> List ac
 | [] => []
 | .own es :: r => .dat (.slice es) :: ff r
 | .agg cs :: r => jl (bj cs) :: ff r
 | .tup _ :: r => .undef :: ff r
 | a :: r => a :: ff r
def cB : ac -> ac
 | .own es => .dat (.slice es)
 | .agg cs => jl (bj cs)
 | .tup vs => .tup (ff vs)
 | a => a
/-- As data, ownership given up. -/
def vd : ac -> Option an
 | .dat d => some d
 | .own es => some (.slice es)
 | .agg cs => match fF (bj cs) with | some ds => some (.agg ds) | none => none
 | _ => none
def bB : ac -> List ac
 | .agg cs => cs
 | .dat (.agg ds) => ds.map .dat
 | a => [a]
def B7 : List Value -> List ac
 | [] => []
 | v :: r => (if bV v then .dat (.flat v) else .undef) :: B7 r
def bZ : Value -> ac
 | .agg cs => jl (B7 cs.toList)
 | .tuple _ => .undef
 | v => if bV v then .dat (.flat v) else .undef
/-- A nil slice is read as an empty one. -/
def nz : ac -> ac
 | .dat (.flat (.slice none 0 0)) => .dat (.slice [])
 | a => a
def Po : List ac -> List ac
 | [] => []
 | a :: r => nz a :: Po r
/-- .. and appended to as a row of nobody's. -/
def Bc : ac -> ac
 | .dat (.flat (.slice none 0 0)) => .own []
 | a => a
def G3 : List ac -> List ac
 | [a, x] => [Bc a, nz x]
 | l => l
def Gh : ac -> Bool
 | .dat (.flat (.slice none 0 0)) => true
 | _ => false
/-! ### Scalars -/
def Gj (pr : az) (op : BinOp) (k : IntKind) (a b : Int) : Option Value :=
 match op with
 | .add => some (.int k (pr.add k a b))
 | .sub => some (.int k (pr.dif k a b))
 | .mul => some (.int k (pr.mul k a b))
 | .quo => if pr.eq b 0 = true then none else some (.int k (pr.wrap k (pr.quo a b)))
 | .rem => if pr.eq b 0 = true then none else some (.int k (pr.rem a b))
 | .eql => some (.bool (pr.eq a b))
 | .neq => some (.bool !(pr.eq a b))
 | .lss => some (.bool (pr.lt a b))
 | .leq => some (.bool !(pr.lt b a))
 | .gtr => some (.bool (pr.lt b a))
 | .geq => some (.bool !(pr.lt a b))
 | _ => none
def E8 (pr : az) (op : BinOp) (x y : ByteArray) : Option Value :=
 match op with
 | .add => (match pr.cat x y with | some z => some (.string z) | none => none)
 | .eql => some (.bool (pr.seq x y))
 | .neq => some (.bool !(pr.seq x y))
 | .lss => some (.bool (pr.slt x y))
 | .leq => some (.bool (pr.slt x y || pr.seq x y))
 | .gtr => some (.bool !(pr.slt x y || pr.seq x y))
 | .geq => some (.bool !(pr.slt x y))
 | _ => none
def vZ (pr : az) (op : BinOp) (td : Option TD) (x y : Value) : Option Value :=
 match op, x, y with
 | .shl, .int k a, .int _ b => if pr.lt b 0 = true then none else some (.int k (pr.wrap k (a * 2 ^ (min b.toNat k.bits))))
 | .shr, .int k a, .int _ b => if pr.lt b 0 = true then none else some (.int k (a.fdiv (2 ^ (min b.toNat k.bits))))
 | op, .int k a, .int k' b => if k = k' then Gj pr op k a b else none
 | op, .string a, .string b => E8 pr op a b
 | .eql, .bool a, .bool b => match td with | some .bool => some (.bool (a == b)) | _ => none
 | .neq, .bool a, .bool b => match td with | some .bool => some (.bool !(a == b)) | _ => none
 | .eql, .pointer none, .pointer none => match td with | some .pointer => some (.bool true) | _ => none
 | .neq, .pointer none, .pointer none => match td with | some .pointer => some (.bool false) | _ => none
 | _, _, _ => none
def kd (v : Value) : ac := .dat (.flat v)
def TI.isAgg (i : TI) : Bool := match i.desc with | .struct _ => true | .array _ _ => true | _ => false
/-! ### Operations -/
/-- Which operand's ownership moves. -/
def HU : Op -> Option Nat
 | .move _ | .assign _ | .box _ _ | .extract _ _ => some 0
 | .store _ _ _ => some 1
 | .call { callee := .builtin .append, .. } => some 0
 | _ => none
/-- What an operation does to the one object that it looks at. -/
inductive YX where
 |keep
 |set (o : aN)
 |new (o : aN)
 /-- a new row in the place of the one that is looked at, and a slice of its first elements -/
 |grow (o : aN) (s len : Nat)
 /-- a new row of the frame's own, and a slice of its first elements -/
 |row (o : aN) (s len : Nat)
 /-- a new object that is known by a lasting name -/
 |fresh (o : aN)
def fY : Nat -> List ac -> List ac
 | 0, l => l
 | _ + 1, [] => []
 | n + 1, _ :: l => fY n l
def ev : Nat -> List ac -> List ac
 | 0, _ => []
 | _ + 1, [] => []
 | n + 1, a :: l => a :: ev n l
/-- 'new' in the place of the cells from off on. -/
def da {α : Type} : Nat -> List α -> List α -> List α
 | _, [], l => l
 | _, _ :: _, [] => []
 | 0, n :: ns, _ :: l => n :: da 0 ns l
 | off + 1, n :: ns, a :: l => a :: da off (n :: ns) l
/-- The object that an operation looks at. -/
def looks : Op -> List ac -> Option Name
 | .load _ _, [.ptr n _] => some n
 | .store _ _ _, [.ptr n _, _] => some n
 | .lookup _ _ _ _, [.map n, _] => some n
 | .mapUpdate _ _ _ _, [.map n, _, _] => some n
 | .insert _ _ _ _, [.map n, _, _] => some n
 | .call { callee := .builtin .len, .. }, [.map n] => some n
 | .call { callee := .builtin .append, .. }, [.win n _ _ _, _] => some n
 | .call { callee := .builtin .delete, .. }, [.map n, _] => some n
 | _, _ => none
def loadCells (i : TI) (off : Nat) (cs : List ac) : Option ac :=
 if i.isAgg then
  let part := ev i.size (fY off cs)
  if part.length = i.size then some (jl (bj part)) else none
 else match cs[off]? with
  | some (.own es) => some (.dat (.slice es))
  | some .undef => none
  | some (.agg _) => none
  | some (.tup _) => none
  | some a => some a
  | none => none
def jS (i : TI) (cs : List an) : Option ac :=
 if i.isAgg then
  let part := cs.take i.size
  if part.length = i.size then some (.dat (.agg part)) else none
 else match cs with
  | .flat v :: _ => some (.dat (.flat v))
  | .slice es :: _ => some (.dat (.slice es))
  | _ => none
/-- Cells that a store takes. -/
def sV : ac -> Bool
 | .dat (.flat _) | .dat (.slice _) | .own _ | .ref _ | .ptr _ _ | .map _ | .win _ _ _ _ | .fn _ _ _ => true
 | _ => false
def dZ : List ac -> Bool
 | [] => true
 | a :: r => sV a && dZ r
/-- The parts laid into the zero value's cells. -/
def Ar (place : Nat -> Option (Nat × Nat)) : List (Nat × ac) -> List ac -> Option (List ac)
 | [], cells => some cells
 |(i, v) :: rest, cells =>
  match place i with
  | none => none
  | some (off, size) =>
   let cs := bB (cB v)
   if cs.length = size /\ off + size <= cells.length /\ dZ cs = true then Ar place rest (da off cs cells) else none
/-- All parts of a slice literal, in order, as data. -/
def ij (size : Nat) : Nat -> List (Nat × ac) -> Option (List an)
 | _, [] => some []
 | k, (i, v) :: rest =>
  if i = k then
   match vd v with
   | some d => if d.cells.length = size then match ij size (k + 1) rest with | some ds => some (d :: ds) | none => none else none
   | none => none
  else none
def Io : TD -> Option TypeDesc
 | .string => some .string
 | .int k => some (.int k)
 | .bool => some .bool
 | _ => none
def bw.desc (E : bw) (t : TypeId) : Option TD := match E.ty t with | some i => some i.desc | none => none
def bw.key (E : bw) (t : TypeId) : Option TypeDesc := match E.ty t with | some i => Io i.desc | none => none
structure Out where
 val : ac
 eff : YX
def Tx (v : Option Value) : Option Out := match v with | some v => some ⟨kd v, .keep⟩ | none => none
def uB (v : Option ac) : Option Out := match v with | some v => some ⟨v, .keep⟩ | none => none
def hD (pr : az) (i : TI) (es : List an) (x : ac) : Option (List an) :=
 match x with
 | .dat (.slice ds) => pr.app i.size i.bytes es ds
 | _ => none
def lc (v : Option ac) (dflt : Nat) : Option Nat :=
 match v with
 | none => some dflt
 | some (.dat (.flat (.int _ i))) => if 0 <= i then some i.toNat else none
 | some _ => none
/-- Bounds of a slice expression. -/
def th (v : Option ac) : Option (Option Int) :=
 match v with
 | none => some none
 | some (.dat (.flat (.int _ i))) => some (some i)
 | some _ => none
def oN (pr : az) (size : Nat) (lo hi : Option ac) (x : ac) : Option ac :=
 match th lo, th hi with
 | some l, some h => (match x with
  | .dat (.flat (.string s)) => (match pr.ssub s l h with | some r => some (kd (.string r)) | none => none)
  | .dat (.slice es) => (match pr.sub size es l h with | some r => some (.dat (.slice r)) | none => none)
  | _ => none)
 | _, _ => none
def di (lo hi : Option Operand) (vals : List ac) : Option ac × Option ac :=
 match lo, hi, vals with
 | some _, some _, [l, h] => (some l, some h)
 | some _, none, [l] => (some l, none)
 | none, some _, [h] => (none, some h)
 | _, _, _ => (none, none)
def FR (op : BinOp) (td : Option TD) (x y : ac) : Option Value :=
 match td, x, y with
 | some .pointer, .ptr _ _, .dat (.flat (.pointer none)) | some .pointer, .ref _, .dat (.flat (.pointer none)) =>
  (match op with | .eql => some (.bool false) | .neq => some (.bool true) | _ => none)
 | some (.map _ _), .map _, .dat (.flat (.map none)) => (match op with | .eql => some (.bool false) | .neq => some (.bool true) | _ => none)
 | _, _, _ => none
def xT : Operand -> Bool
 | .const (.slice none 0 0) => true
 | _ => false
def notNil : BinOp -> Option Out
 | .eql => some ⟨kd (.bool false), .keep⟩
 | .neq => some ⟨kd (.bool true), .keep⟩
 | _ => none
def Ky : BinOp -> Option Out
 | .eql => some ⟨kd (.bool true), .keep⟩
 | .neq => some ⟨kd (.bool false), .keep⟩
 | _ => none
/-- A slice against nil. -/
def tQ (E : bw) (op : BinOp) (t : TypeId) : List ac -> Option Out
 | [x, _] => (match E.desc t with
  | some (.slice _) => (match x with
   | .win _ _ _ _ | .dat (.slice (_ :: _)) => notNil op
   | .dat (.flat (.slice none 0 0)) => Ky op
   | _ => none)
  | _ => none)
 | _ => none
def parts (ps : List (Nat × Operand)) (vals : List ac) : List (Nat × ac) := (ps.map (·.1)).zip vals
def setAt (k : Nat) (d : an) : List (Value × an) -> List (Value × an)
 | [] => []
 |(x, y) :: r => match k with | 0 => (x, d) :: r | k + 1 => (x, y) :: setAt k d r
def uS (k : Nat) : List (Value × an) -> List (Value × an)
 | [] => []
 | e :: r => match k with | 0 => r | k + 1 => e :: uS k r
/-! #### Each kind of operation -/
def AO : List ac -> Option Out
 | [v] => some ⟨v, .keep⟩
 | _ => none
def SM : List ac -> Option Out
 | [.dat (.flat (.bool c)), a, b] => some ⟨if c then a else b, .keep⟩
 | _ => none
def Kr (E : bw) (op : BinOp) (t : TypeId) : List ac -> Option Out
 | [.dat (.flat x), .dat (.flat y)] => Tx (vZ E.pr op (E.desc t) x y)
 | [x, y] => Tx (FR op (E.desc t) x y)
 | _ => none
def YG (E : bw) (op : UnOp) : List ac -> Option Out
 | [.dat (.flat (.bool b))] => (match op with | .not => some ⟨kd (.bool !b), .keep⟩ | _ => none)
 | [.dat (.flat (.int k n))] => (match op with | .neg => some ⟨kd (.int k (E.pr.dif k 0 n)), .keep⟩ | _ => none)
 | _ => none
/-- Bytes, as numbers. -/
def dL : List an -> Option (List Int)
 | [] => some []
 | .flat (.int .u8 n) :: r => (match dL r with | some ns => some (n :: ns) | none => none)
 | _ => none
def lu (ns : List Int) : ByteArray := ns.foldl (fun r n => r.push (UInt8.ofNat n.toNat)) ByteArray.empty
def yX (E : bw) (src d : TypeId) : List ac -> Option Out
 | [.dat (.flat (.int _ n))] => (match E.desc src, E.desc d with | some (.int _), some (.int k) => some ⟨kd (.int k (E.pr.wrap k n)), .keep⟩ | _, _ => none)
 | [.dat (.flat (.string x))] => (match E.desc src, E.desc d with | some .string, some .string => some ⟨kd (.string x), .keep⟩ | _, _ => none)
 | [.dat (.slice es)] => (match E.desc src, E.desc d with
  | some (.slice e), some .string => (match E.desc e, dL es with | some (.int .u8), some ns => some ⟨kd (.string (lu ns)), .keep⟩ | _, _ => none)
  | _, _ => none)
 | _ => none
def Yb : List ac -> Option Out
 | [.ptr n off] => some ⟨.ptr n off, .keep⟩
 | [.ref cs] => some ⟨.ref cs, .keep⟩
 | _ => none
def kD (E : bw) (st : TypeId) (f : Nat) : Option (Nat × TI) :=
 match E.desc st with
 | some (.struct fs) => (match fs[f]? with
  | some (off, ft) => (match E.ty ft with
   | some i => some (off, i)
   | none => none)
  | none => none)
 | _ => none
def kb (E : bw) (st : TypeId) (f : Nat) : List ac -> Option Out
 | [.ref cs] => (match kD E st f with | some (off, i) => if i.size = 0 then none else some ⟨.ref (cs.drop off), .keep⟩ | none => none)
 | [.ptr n o] => (match kD E st f with | some (off, i) => if i.size = 0 then none else some ⟨.ptr n (o + off), .keep⟩ | none => none)
 | _ => none
def tT (E : bw) (st : TypeId) (f : Nat) : List ac -> Option Out
 | [.dat (.agg cs)] => (match kD E st f with | some (off, i) => uB (jS i (cs.drop off)) | none => none)
 | [.agg cs] => (match kD E st f with | some (off, i) => uB (loadCells i off cs) | none => none)
 | _ => none
def elemOf (E : bw) (t : TypeId) : Option TI :=
 match E.desc t with
 | some (.slice e) => E.ty e
 | _ => none
def aL (E : bw) (t : TypeId) : List ac -> Option Out
 | [.dat (.slice es), .dat (.flat (.int _ i))] =>
  (match elemOf E t with
   | some ti => (match E.pr.elt es i with
     | some d => if d.cells.length = ti.size /\ 0 < ti.size then some ⟨.ref d.cells, .keep⟩ else none
     | none => none)
   | none => none)
 | [.win n s off len, .dat (.flat (.int _ i))] =>
  (match elemOf E t with
   | some ti => (match i with
    | .ofNat k => if (Nat.blt k len && Nat.beq s ti.size) = true then some ⟨.ptr n (off + k * s), .keep⟩ else none
    | .negSucc _ => none)
   | none => none)
 | [.ptr n off, .dat (.flat (.int _ i))] =>
  (match E.desc t with
   | some (.array len e) => (match E.ty e, i with
    | some ti, .ofNat k => if Nat.blt k len = true then some ⟨.ptr n (off + k * ti.size), .keep⟩ else none
    | _, _ => none)
   | _ => none)
 | _ => none
def tS (E : bw) (t : TypeId) : List ac -> Option Out
 | [.dat (.flat (.string s)), .dat (.flat (.int _ i))] =>
  (match E.desc t with
   | some .string => (match E.pr.byte s i with | some b => some ⟨kd (.int .u8 b.toNat), .keep⟩ | none => none)
   | _ => none)
 | _ => none
def jk (E : bw) (t : TypeId) (lo hi mx : Option Operand) : List ac -> Option Out
 | .dat (.flat (.string x)) :: rest =>
  (match mx, E.desc t with
   | none, some .string => uB (oN E.pr 0 (di lo hi rest).1 (di lo hi rest).2 (.dat (.flat (.string x))))
   | _, _ => none)
 | .dat (.slice es) :: rest =>
  (match mx, elemOf E t with
   | none, some i => uB (oN E.pr i.size (di lo hi rest).1 (di lo hi rest).2 (.dat (.slice es)))
   | _, _ => none)
 | .win n s off len :: rest =>
  (match mx, elemOf E t with
   | none, some i => (match th (di lo hi rest).1, th (di lo hi rest).2 with
    | some l, some h => (match dC h len, dC l 0 with
     | some h, some l => if (Nat.ble l h && Nat.ble h len && Nat.beq s i.size) = true then
       (match l with
       | 0 => some ⟨.win n s off h, .keep⟩
       | l + 1 => if Nat.blt (l + 1) h = true then some ⟨.win n s (off + (l + 1) * s) (h - (l + 1)), .keep⟩ else some ⟨.dat (.slice []), .keep⟩)
      else none
     | _, _ => none)
    | _, _ => none)
   | _, _ => none)
 | _ => none
def placeOf (E : bw) (st : TypeId) (k : Nat) : Option (Nat × Nat) := match kD E st k with | some (off, i) => some (off, i.size) | none => none
def G7 (E : bw) (t : TypeId) (ps : List (Nat × Operand)) (vals : List ac) : Option Out :=
 match E.ty t with
 | some i => (match i.desc with
  | .struct _ => if dZ (bB (bZ i.zero)) = true /\ vals.length = ps.length then (match Ar (placeOf E t) (parts ps vals) (bB (bZ i.zero)) with
   | some cs => some ⟨jl cs, .keep⟩
   | none => none) else none
  | .array _ e => (match E.ty e with
   | some ie => if dZ (bB (bZ i.zero)) = true /\ vals.length = ps.length then (match Ar (fun k => some (k * ie.size, ie.size)) (parts ps vals) (bB (bZ i.zero)) with
    | some cs => some ⟨jl cs, .keep⟩
    | none => none) else none
   | none => none)
  | _ => none)
 | none => none
/-- A slice literal as a row. -/
def tU (E : bw) (t : TypeId) (len : Nat) (ps : List (Nat × Operand)) (vals : List ac) : Option Out :=
 match elemOf E t with
 | some i => if 0 < i.size /\ 0 < len /\ len * i.size <= 16777216 /\ vals.length = ps.length then (match ij i.size 0 (parts ps vals) with
   | some ds => if ds.length = len /\ cK ((ds.flatMap an.cells).map .dat) = false then some ⟨.undef, match Nat.beq len 1 with | true => .row (.cells ((ds.flatMap an.cells).map .dat)) i.size len | false => .grow (.cells ((ds.flatMap an.cells).map .dat)) i.size len⟩ else none
   | none => none) else none
 | none => none
/-- Rows of bytes are of type uint8. -/
def iE (E : bw) (t : TypeId) (es : List an) : Bool :=
 match eY es with
 | true => (match E.desc t with | some (.slice e) => Nat.beq e tH | _ => false)
 | false => true
def oF (E : bw) (t : TypeId) (len : Nat) (ps : List (Nat × Operand)) (vals : List ac) : Option Out :=
 match elemOf E t with
 | some i => if 0 < i.size /\ len * i.size <= 16777216 /\ vals.length = ps.length then (match ij i.size 0 (parts ps vals) with
   | some ds => if ds.length = len /\ iE E t ds = true then some ⟨.own ds, .keep⟩ else none
   | none => none) else none
 | none => none
def tR (f : Fn) (k : Nat) (vals : List ac) : Option Out := some ⟨.fn f (ev k vals) (fY k vals), .keep⟩
def sr (i : Nat) : List ac -> Option Out
 | [.tup vs] => (match vs[i]? with | some v => some ⟨v, .keep⟩ | none => none)
 | _ => none
def kM (E : bw) (take : Bool) (t : TypeId) (vals : List ac) (ob : Option aN) : Option Out :=
 match vals with
 | [.ref cs] => (match E.ty t with | some i => uB (jS i cs) | none => none)
 | [.ptr _ off] =>
  (match E.ty t, ob with
   | some i, some (.cells cs) =>
    if take && !i.isAgg then (match cs[off]? with
     | some (.own es) => some ⟨.own es, .set (.cells (da off [.dat (.slice es)] cs))⟩
     | _ => uB (loadCells i off cs))
    else uB (loadCells i off cs)
   | _, _ => none)
 | _ => none
def tP (E : bw) (t : TypeId) (vals : List ac) (ob : Option aN) : Option Out :=
 match vals with
 | [.ptr _ off, v] =>
  (match E.ty t, ob with
   | some i, some (.cells cs) =>
    if (bB v).length = i.size /\ off + i.size <= cs.length /\ dZ (bB v) = true /\ 0 < i.size /\ (!cK (da off (bB v) cs) || cK cs) = true then some ⟨.undef, .set (.cells (da off (bB v) cs))⟩ else none
   | _, _ => none)
 | _ => none
def G8 (E : bw) (t : TypeId) : List ac -> Option Out
 | [] => (match E.ty t with | some i => if dZ (bB (bZ i.zero)) = true /\ (!cK (bB (bZ i.zero)) || Nat.beq t O6) = true then some ⟨.undef, .new (.cells (bB (bZ i.zero)))⟩ else none | none => none)
 | _ => none
def Hj (zs : List ac) : Nat -> List ac
 | 0 => []
 | c + 1 => zs ++ Hj zs c
def qv (E : bw) (t : TypeId) : List ac -> Option Out
 | [.dat (.flat (.int _ l)), .dat (.flat (.int _ c))] =>
  (match elemOf E t, l, c with
   | some i, .ofNat l, .ofNat c =>
    if (Nat.ble l c && Nat.ble (i.bytes * c) 140737488355328 && Nat.ble c jv && Nat.blt 0 i.size && dZ (bB (bZ i.zero)) && !cK (Hj (bB (bZ i.zero)) c)) = true
    then some ⟨.undef, .grow (.cells (Hj (bB (bZ i.zero)) c)) i.size l⟩ else none
   | _, _, _ => none)
 | _ => none
def RW : List ac -> Option Out
 | [v] => if dZ (bB v) = true /\ cK (bB v) = false then some ⟨.undef, .new (.cells (bB v))⟩ else none
 | _ => none
def ER (r : Option Operand) : List ac -> Option Out
 | [] => (match r with | none => some ⟨.undef, .new (.map [])⟩ | some _ => none)
 | _ => none
def AP (r : Option Operand) : List ac -> Option Out
 | [] => (match r with | none => some ⟨.undef, .fresh (.map [])⟩ | some _ => none)
 | _ => none
def mapEntries (m : ac) (ob : Option aN) : Option (List (Value × an)) :=
 match m with
 | .dat (.flat (.map none)) => some []
 | .map _ => (match ob with | some (.map es) => some es | _ => none)
 | _ => none
def found (ok : Bool) (d : an) (b : Bool) : Out := ⟨if ok then .tup [.dat d, kd (.bool b)] else .dat d, .keep⟩
def fN (E : bw) (t : TypeId) (ok : Bool) (vals : List ac) (ob : Option aN) : Option Out :=
 match vals with
 | [m, .dat (.flat k)] =>
  (match E.desc t with
   | some (.map kt et) => (match E.key kt, E.ty et, mapEntries m ob with
    | some td, some ei, some es => (match E.pr.key td k es with
      | some (some (_, d)) => some (found ok d true)
      | some none => (match vd (bZ ei.zero) with
       | some z => some (found ok z false)
       | none => none)
      | none => none)
    | _, _, _ => none)
   | _ => none)
 | _ => none
def cY (E : bw) (t : TypeId) (vals : List ac) (ob : Option aN) : Option Out :=
 match vals with
 | [.map _, .dat (.flat k), v] =>
  (match E.desc t, ob with
   | some (.map kt _), some (.map es) => (match E.key kt, vd v with
    | some td, some d => (match E.pr.key td k es with
     | some (some (i, _)) => some ⟨.undef, .set (.map (setAt i d es))⟩
     | some none => some ⟨.undef, .set (.map (es ++ [(k, d)]))⟩
     | none => none)
    | _, _ => none)
   | _, _ => none)
 | _ => none
def oE (E : bw) (t : TypeId) (vals : List ac) (ob : Option aN) : Option Out :=
 match vals with
 | [.dat (.slice es)] => (match E.desc t with | some (.slice _) => some ⟨kd (.int .i64 (E.pr.len es)), .keep⟩ | _ => none)
 | [.dat (.flat (.string s))] => (match E.desc t with | some .string => some ⟨kd (.int .i64 (E.pr.slen s)), .keep⟩ | _ => none)
 | [.win _ _ _ len] => (match E.desc t with | some (.slice _) => if Nat.ble len jv = true then some ⟨kd (.int .i64 (Int.ofNat len)), .keep⟩ else none | _ => none)
 | [.dat (.flat (.map none))] => (match E.desc t with | some (.map _ _) => some ⟨kd (.int .i64 0), .keep⟩ | _ => none)
 | [.map _] => (match E.desc t, ob with | some (.map _ _), some (.map es) => if es.length <= jv then some ⟨kd (.int .i64 es.length), .keep⟩ else none | _, _ => none)
 | _ => none
/-- A row of len elements with more behind them. -/
def iM (E : bw) (i : TI) (len : Nat) (cs : List ac) (x : ac) : Option Out :=
 match hD E.pr i [] x with
 | some ds => if (Nat.ble ((len + ds.length) * i.bytes) 140737488355328 && Nat.ble (len + ds.length) jv && Nat.ble (len * i.size) cs.length && !cK (ev (len * i.size) cs ++ (ds.flatMap an.cells).map .dat)) = true
   then some ⟨.undef, .grow (.cells (ev (len * i.size) cs ++ (ds.flatMap an.cells).map .dat)) i.size (len + ds.length)⟩ else none
 | none => none
def xU : ac -> Bool
 | .dat (.slice (_ :: _)) => true
 | _ => false
def cZ (E : bw) (take : Bool) (t : TypeId) (vals : List ac) (ob : Option aN) : Option Out :=
 match vals with
 | [.own es, x] => (match elemOf E t with
  | some i => if (take && es.isEmpty && xU x) = true then iM E i 0 [] x
   else (match hD E.pr i es x with | some r => if iE E t r = true then some ⟨.own r, .keep⟩ else none | none => none)
  | none => none)
 | [.win _ s off len, x] => (match elemOf E t, ob with
  | some i, some (.cells cs) => if (take && Nat.beq s i.size && Nat.beq off 0) = true then iM E i len cs x else none
  | _, _ => none)
 | _ => none
def mF : List UInt8 -> List an
 | [] => []
 | b :: r => .flat (.int .u8 (Int.ofNat b.toNat)) :: mF r
/-- A string's bytes behind a row of bytes. -/
def eM (E : bw) (t t2 : TypeId) (vals : List ac) : Option Out :=
 match vals with
 | [.own es, .dat (.flat (.string s))] => (match E.desc t2, elemOf E t with
  | some .string, some i => if Nat.beq i.size 1 = true then
    (match hD E.pr i es (.dat (.slice (mF s.data.toList))) with | some r => if iE E t r = true then some ⟨.own r, .keep⟩ else none | none => none) else none
  | _, _ => none)
 | _ => none
def RV (E : bw) : List ac -> Option Out
 | [.dat (.flat (.int k x)), .dat (.flat (.int k' y))] => if k' = k then some ⟨kd (.int k (E.pr.mx x y)), .keep⟩ else none
 | _ => none
def RU (E : bw) : List ac -> Option Out
 | [.dat (.flat (.int k x)), .dat (.flat (.int k' y))] => if k' = k then some ⟨kd (.int k (if E.pr.lt y x = true then y else x)), .keep⟩ else none
 | _ => none
def kN (E : bw) (t : TypeId) (vals : List ac) (ob : Option aN) : Option Out :=
 match vals with
 | [.map _, .dat (.flat k)] =>
  (match E.desc t, ob with
   | some (.map kt _), some (.map es) => (match E.key kt with
    | some td => (match E.pr.key td k es with
     | some (some (i, _)) => some ⟨.tup [], .set (.map (uS i es))⟩
     | some none => some ⟨.tup [], .set (.map es)⟩
     | none => none)
    | none => none)
   | _, _ => none)
 | _ => none
def kc (E : bw) (take : Bool) (b : Builtin) (argTypes : List TypeId) (vals : List ac) (ob : Option aN) : Option Out :=
 match argTypes with
 | [] => none
 | t :: _ => match b with
  | .len => oE E t (Po vals) ob
  | .append => (match argTypes with | [_, t2] => if t2 = t then cZ E take t (G3 vals) ob else eM E t t2 (G3 vals) | _ => none)
  | .max => RV E vals
  | .min => RU E vals
  | .delete => kN E t vals ob
  | _ => none
def iQ (E : bw) (take : Bool) (o : Op) (vals : List ac) (ob : Option aN) : Option Out :=
 match o with
 | .move _ => AO vals
 | .assign _ => AO vals
 | .pick _ _ _ => SM vals
 | .binOp op t _ y _ => if xT y = true then tQ E op t vals else Kr E op t vals
 | .unOp op _ _ => YG E op vals
 | .convert s d _ => yX E s d (Po vals)
 | .nilCheck _ => Yb vals
 | .fieldAddr st _ f => kb E st f vals
 | .field st _ f => tT E st f vals
 | .indexAddr t _ _ => aL E t (Po vals)
 | .index t _ _ => tS E t vals
 | .slice t _ lo hi mx => jk E t lo hi mx (Po vals)
 | .build t ps => G7 E t ps.toList vals
 | .buildSlice t len ps => if (take && Nat.blt 0 len) = true then tU E t len ps.toList vals else oF E t len ps.toList vals
 | .makeFunc f first _ => tR f first.size vals
 | .extract _ i => sr i vals
 | .load t _ => kM E take t vals ob
 | .store t _ _ => tP E t vals ob
 | .alloc t => G8 E t vals
 | .box _ _ => RW vals
 | .makeMap _ r => if take = true then AP r vals else ER r vals
 | .makeSlice t _ _ => qv E t vals
 | .lookup t _ _ ok => fN E t ok vals ob
 | .mapUpdate t _ _ _ => cY E t vals ob
 | .insert t _ _ _ => cY E t vals ob
 | .call c => (match c.callee with | .builtin b => kc E take b c.argTypes.toList vals ob | _ => none)
 | _ => none
end Go.Tp

namespace Go.Tp
section
variable {w : World} {R : Own} {N : Name -> Option Nat}
theorem hJ.rep {v : Value} {es : List an} {bs : List Nat} (h : hJ w R v es bs) : ep w R v (.slice es) := by
 cases h with
 | nil => exact .nil _ _
 | row => assumption
theorem aH {a : ac} {as : List ac} {v : Value} {vs : List Value} {b1 b2 : List Nat} (h : ak w R N a v b1) (k : ag w R N as vs b2) :
  ag w R N (a :: as) (v :: vs) (b1 ++ b2) := by
 simp only [ag]; exact ⟨v, vs, b1, b2, rfl, rfl, h, k⟩
theorem aT : ag w R N [] [] [] := by simp [ag]
theorem aD {a : ac} {as : List ac} {vs : List Value} {bs : List Nat} (h : ag w R N (a :: as) vs bs) :
  ∃ v vs' b1 b2, vs = v :: vs' /\ bs = b1 ++ b2 /\ ak w R N a v b1 /\ ag w R N as vs' b2 := by
 simpa only [ag] using h
theorem ba {vs : List Value} {bs : List Nat} (h : ag w R N [] vs bs) : vs = [] /\ bs = [] := by simpa only [ag] using h
theorem cy {as : List ac} : ∀ {cs : List ac} {vs us : List Value} {b1 b2 : List Nat}, ag w R N as vs b1 -> ag w R N cs us b2 ->
  ag w R N (as ++ cs) (vs ++ us) (b1 ++ b2) := by
 induction as with
 | nil => intro cs vs us b1 b2 h k; obtain ⟨rfl, rfl⟩ := ba h; simpa using k
 | cons a as ih =>
  intro cs vs us b1 b2 h k
  obtain ⟨v, vs', c1, c2, rfl, rfl, h1, h2⟩ := aD h
  simpa using aH h1 (ih h2 k)
/-- The cells of a datum. -/
theorem il : ∀ {ds : List an} {vs : List Value}, cR w R vs ds -> ag w R N (ds.map .dat) vs []
 | [], [], _ => aT
 | d :: ds, v :: vs, h => by
  obtain ⟨h1, h2⟩ := h
  have hv : ak w R N (.dat d) v [] := by
   simp only [ak]
   refine ⟨trivial, ?_⟩
   cases h1 with
   | flat h => exact .flat h
   | nil a cap => exact .nil a cap
   | slice => exact .slice _ _ _ _ _ _ (by assumption) (by assumption) (by assumption) (by assumption) (by assumption) (by assumption)
  simpa using aH hv (il (ds := ds) h2)
 | [], _ :: _, h => h.elim
 | _ :: _, [], h => h.elim
theorem bS {v : Value} {d : an} (h : ss w R v d) : ak w R N (.dat d) v [] := by simp only [ak]; exact ⟨trivial, h⟩
theorem bY {v : Value} {d : an} {bs : List Nat} (h : ak w R N (.dat d) v bs) : bs = [] /\ ss w R v d := by simpa only [ak] using h
theorem aF {v u : Value} {bs : List Nat} (h : ak w R N (.dat (.flat u)) v bs) : bs = [] /\ v = u /\ bV u = true := by
 obtain ⟨h1, h2⟩ := bY h
 have h2 : ep w R v (.flat u) := h2
 cases h2 with | flat hf => exact ⟨h1, rfl, hf⟩
theorem bD {v : Value} (h : bV v = true) : ak w R N (kd v) v [] := bS (d := .flat v) (.flat h)
theorem dj {v : Value} {es : List an} {bs : List Nat} (h : ak w R N (.dat (.slice es)) v bs) : bs = [] /\ ep w R v (.slice es) := bY h
theorem gI {v : Value} {cs : List ac} {bs : List Nat} (h : ak w R N (.agg cs) v bs) : ∃ vs, v = .agg vs.toArray /\ ag w R N cs vs bs := by
 simpa only [ak] using h
theorem bX {v : Value} {es : List an} {bs : List Nat} (h : ak w R N (.own es) v bs) : hJ w R v es bs := by simpa only [ak] using h
theorem aP (v : Value) : ak w R N .undef v [] := by simp only [ak]
/-- Of what is one cell and no owned slice, nothing is owned. -/
theorem kl {a : ac} {v : Value} {bs : List Nat} (h : ak w R N a v bs) (h1 : ∀ es, a ≠ .own es) (h2 : ∀ cs, a ≠ .agg cs) (h3 : ∀ cs, a ≠ .tup cs) : bs = [] := by
 cases a <;> simp_all [ak]
theorem ia : ∀ {as : List ac} {vs : List Value} {bs : List Nat}, ag w R N as vs bs -> ag w R N (bj as) vs []
 | [], _, _, h => by obtain ⟨rfl, rfl⟩ := ba h; exact aT
 | a :: as, vs, bs, h => by
  obtain ⟨v, vs', b1, b2, rfl, rfl, h1, h2⟩ := aD h
  have ih := ia h2
  cases a with
  | own es => simpa [bj] using aH (bS (d := .slice es) (bX h1).rep) ih
  | agg cs => simpa [bj] using aH (aP v) ih
  | tup cs => simpa [bj] using aH (aP v) ih
  | _ =>
   obtain rfl := kl h1 (by simp) (by simp) (by simp)
   simpa [bj] using aH h1 ih
theorem gW : ∀ {cs : List ac} {vs : List Value} {bs : List Nat} {ds : List an}, ag w R N cs vs bs -> fF cs = some ds -> cR w R vs ds /\ bs = []
 | [], _, _, _, h, hd => by
  obtain ⟨rfl, rfl⟩ := ba h
  simp [fF] at hd
  subst hd
  exact ⟨trivial, rfl⟩
 | a :: cs, vs, bs, ds, h, hd => by
  obtain ⟨v, vs', b1, b2, rfl, rfl, h1, h2⟩ := aD h
  unfold fF at hd
  split at hd
  ·simp at *
  ·rename_i u r heq
   obtain ⟨rfl, rfl⟩ := List.cons.inj heq
   cases hc : fF cs with
   | none => simp [hc] at hd
   | some ds' =>
    simp [hc] at hd
    subst hd
    obtain ⟨h3, rfl⟩ := gW h2 hc
    obtain ⟨rfl, h4⟩ := bY h1
    exact ⟨⟨h4, h3⟩, rfl⟩
  ·rename_i es r heq
   obtain ⟨rfl, rfl⟩ := List.cons.inj heq
   cases hc : fF cs with
   | none => simp [hc] at hd
   | some ds' =>
    simp [hc] at hd
    subst hd
    obtain ⟨h3, rfl⟩ := gW h2 hc
    obtain ⟨rfl, h4⟩ := bY h1
    exact ⟨⟨h4, h3⟩, rfl⟩
  simp at hd
theorem jK {cs : List ac} {vs : List Value} {bs : List Nat} (h : ag w R N cs vs bs) : ak w R N (jl cs) (.agg vs.toArray) bs := by
 unfold jl
 split
 ·rename_i ds hd
  obtain ⟨h1, rfl⟩ := gW h hd
  exact bS ⟨vs, rfl, h1⟩
 simp only [ak]; exact ⟨vs, rfl, h⟩
theorem wj : ∀ {as : List ac} {vs : List Value} {bs : List Nat}, ag w R N as vs bs -> ag w R N (ff as) vs []
 | [], _, _, h => by obtain ⟨rfl, rfl⟩ := ba h; exact aT
 | a :: as, vs, bs, h => by
  obtain ⟨v, vs', b1, b2, rfl, rfl, h1, h2⟩ := aD h
  have ih := wj h2
  cases a with
  | own es => simpa [ff] using aH (bS (d := .slice es) (bX h1).rep) ih
  | agg cs =>
   obtain ⟨us, rfl, h3⟩ := gI h1
   simpa [ff] using aH (jK (ia h3)) ih
  | tup cs => simpa [ff] using aH (aP v) ih
  | _ =>
   obtain rfl := kl h1 (by simp) (by simp) (by simp)
   simpa [ff] using aH h1 ih
theorem oJ {a : ac} {v : Value} {bs : List Nat} (h : ak w R N a v bs) : ak w R N (cB a) v [] := by
 cases a with
 | own es => exact bS (d := .slice es) (bX h).rep
 | agg cs =>
  obtain ⟨us, rfl, h3⟩ := gI h
  exact jK (ia h3)
 | tup cs =>
  simp only [ak] at h
  obtain ⟨us, rfl, h3⟩ := h
  simp only [cB, ak]
  exact ⟨us, rfl, wj h3⟩
 | _ =>
  obtain rfl := kl h (by simp) (by simp) (by simp)
  exact h
theorem tL {a : ac} {v : Value} {bs : List Nat} {d : an} (h : ak w R N a v bs) (hd : vd a = some d) : ss w R v d := by
 cases a with
 | dat e => simp [vd] at hd; subst hd; exact (bY h).2
 | own es => simp [vd] at hd; subst hd; exact (bX h).rep
 | agg cs =>
  obtain ⟨us, rfl, h3⟩ := gI h
  simp only [vd] at hd
  split at hd
  ·rename_i ds hds
   simp at hd
   subst hd
   exact ⟨us, rfl, (gW (ia h3) hds).1⟩
  simp at hd
 | _ => simp [vd] at hd
theorem eE {v : Value} {d : an} (h : ep w R v d) : v.cells = #[v] /\ v.oneCell' = true := by
 cases h with
 | flat h => cases v <;> simp_all [bV, Value.cells, Value.oneCell']
 | nil => simp [Value.cells, Value.oneCell']
 | slice => simp [Value.cells, Value.oneCell']
theorem cA : ∀ {vs : List Value} {cs : List an}, cR w R vs cs -> vs.length = cs.length
 | [], [], _ => rfl
 | _ :: _, _ :: _, h => by simp [cA h.2]
 | [], _ :: _, h => h.elim
 | _ :: _, [], h => h.elim
/-- The cells of a datum's value. -/
theorem Fi {v : Value} {d : an} (h : ss w R v d) : cR w R v.cells.toList d.cells := by
 cases d with
 | agg cs => obtain ⟨vs, rfl, h⟩ := h; simpa [Value.cells, an.cells] using h
 | flat u => rw [(eE (d := .flat u) h).1]; exact ⟨h, trivial⟩
 | slice es => rw [(eE (d := .slice es) h).1]; exact ⟨h, trivial⟩
theorem gu {a : ac} {v : Value} {bs : List Nat} (h : ak w R N a v bs) (hk : dZ (bB a) = true) : ag w R N (bB a) v.cells.toList bs := by
 cases a with
 | agg cs => obtain ⟨us, rfl, h3⟩ := gI h; simpa [bB, Value.cells] using h3
 | dat d =>
  obtain ⟨rfl, hd⟩ := bY h
  cases d with
  | agg cs => obtain ⟨vs, rfl, h1⟩ := hd; simpa [bB, Value.cells] using il h1
  | flat u => rw [(eE (d := .flat u) hd).1]; simpa [bB] using aH h aT
  | slice es => rw [(eE (d := .slice es) hd).1]; simpa [bB] using aH h aT
 | undef => simp [bB, dZ, sV] at hk
 | tup cs => simp [bB, dZ, sV] at hk
 | own es =>
  have : v.cells = #[v] := (eE (bX h).rep).1
  rw [this]
  simpa [bB] using aH h aT
 | ref cs => 
  have h' := h
  simp only [ak] at h'
  obtain ⟨rfl, b, off, rfl, _⟩ := h'
  simpa [bB, Value.cells] using aH h aT
 | ptr n o =>
  have h' := h
  simp only [ak] at h'
  obtain ⟨rfl, b, _, rfl⟩ := h'
  simpa [bB, Value.cells] using aH h aT
 | map n =>
  have h' := h
  simp only [ak] at h'
  obtain ⟨rfl, b, _, rfl⟩ := h'
  simpa [bB, Value.cells] using aH h aT
 | win n s off len =>
  have h' := h
  simp only [ak] at h'
  obtain ⟨rfl, b, cap, _, rfl, _⟩ := h'
  simpa [bB, Value.cells] using aH h aT
 | fn f x y =>
  have h' := h
  simp only [ak] at h'
  obtain ⟨rfl, vs, us, rfl, _⟩ := h'
  simpa [bB, Value.cells] using aH h aT
theorem FQ {a : ac} {v : Value} {bs : List Nat} (h : ak w R N a v bs) (hk : sV a = true) : v.oneCell' = true := by
 cases a with
 | dat d =>
  obtain ⟨rfl, hd⟩ := bY h
  cases d with
  | agg cs => simp [sV] at hk
  | flat u => exact (eE (d := .flat u) hd).2
  | slice es => exact (eE (d := .slice es) hd).2
 | own es => exact (eE (bX h).rep).2
 | ref cs => simp only [ak] at h; obtain ⟨rfl, b, off, rfl, _⟩ := h; rfl
 | ptr n o => simp only [ak] at h; obtain ⟨rfl, b, _, rfl⟩ := h; rfl
 | map n => simp only [ak] at h; obtain ⟨rfl, b, _, rfl⟩ := h; rfl
 | win n s off len => simp only [ak] at h; obtain ⟨rfl, b, cap, _, rfl, _⟩ := h; rfl
 | fn f x y => simp only [ak] at h; obtain ⟨rfl, vs, us, rfl, _⟩ := h; rfl
 | _ => simp [sV] at hk
theorem uA : ∀ {as : List ac} {vs : List Value} {bs : List Nat}, ag w R N as vs bs -> dZ as = true -> ∀ v ∈ vs, v.oneCell' = true
 | [], _, _, h, _, v, hv => by obtain ⟨rfl, rfl⟩ := ba h; simp at hv
 | a :: as, _, _, h, hk, v, hv => by
  obtain ⟨u, vs', b1, b2, rfl, rfl, h1, h2⟩ := aD h
  simp [dZ] at hk
  rcases List.mem_cons.1 hv with rfl | hv
  ·exact FQ h1 hk.1
  exact uA h2 hk.2 v hv
theorem yv : ∀ (vs : List Value), ag w R N (B7 vs) vs []
 | [] => aT
 | v :: vs => by
  have ih := yv vs
  unfold B7
  split
  ·rename_i hf; exact aH (b1 := []) (bD hf) ih
  simpa using aH (aP v) ih
theorem fw (v : Value) : ak w R N (bZ v) v [] := by
 unfold bZ
 split
 ·rename_i cs
  have := jK (yv (w := w) (R := R) (N := N) cs.toList)
  simpa using this
 ·exact aP _
 split
 ·rename_i hf; exact bD hf
 exact aP _
theorem km {a : ac} {v : Value} {bs : List Nat} (h : ak w R N a v bs) : ak w R N (nz a) v bs := by
 unfold nz
 split
 ·obtain ⟨rfl, rfl, _⟩ := aF h
  exact bS (d := .slice []) (.nil none 0)
 exact h
theorem zN {a : ac} {v : Value} {bs : List Nat} (h : ak w R N a v bs) : ak w R N (Bc a) v bs := by
 unfold Bc
 split
 ·obtain ⟨rfl, rfl, _⟩ := aF h
  simp only [ak]; exact .nil
 exact h
theorem C1 : ∀ {as : List ac} {vs : List Value} {bs : List Nat}, ag w R N as vs bs -> ag w R N (Po as) vs bs
 | [], _, _, h => h
 | _ :: _, _, _, h => by
  obtain ⟨v, vs', b1, b2, rfl, rfl, h1, h2⟩ := aD h
  exact aH (km h1) (C1 h2)
end
end Go.Tp

namespace Go.Tp
section
variable {P : Program} {E : bw} {w : World} {R : Own} {N : Name -> Option Nat}
theorem bw.Ok.Av (hE : E.Ok P) {t : TypeId} (h : E.desc t = some .bool) : P.underlying t = some .bool := by
 unfold bw.desc at h
 split at h
 ·rename_i i hi; have := (hE.ty t i hi).2; simp at h; rw [h] at this; exact this
 simp at h
theorem bw.Ok.yr (hE : E.Ok P) {t : TypeId} {k : IntKind} (h : E.desc t = some (.int k)) : P.underlying t = some (.int k) := by
 unfold bw.desc at h
 split at h
 ·rename_i i hi; have := (hE.ty t i hi).2; simp at h; rw [h] at this; exact this
 simp at h
theorem bw.Ok.fD (hE : E.Ok P) {t : TypeId} (h : E.desc t = some .string) : P.underlying t = some .string := by
 unfold bw.desc at h
 split at h
 ·rename_i i hi; have := (hE.ty t i hi).2; simp at h; rw [h] at this; exact this
 simp at h
theorem bw.Ok.jC (hE : E.Ok P) {t : TypeId} (h : E.desc t = some .pointer) : ∃ e, P.underlying t = some (.pointer e) := by
 unfold bw.desc at h
 split at h
 ·rename_i i hi; have := (hE.ty t i hi).2; simp at h; rw [h] at this; exact this
 simp at h
theorem bw.Ok.iB (hE : E.Ok P) {t e : TypeId} (h : E.desc t = some (.slice e)) : P.underlying t = some (.slice e) := by
 unfold bw.desc at h
 split at h
 ·rename_i i hi; have := (hE.ty t i hi).2; simp at h; rw [h] at this; exact this
 simp at h
theorem bw.Ok.lG (hE : E.Ok P) {t k e : TypeId} (h : E.desc t = some (.map k e)) : P.underlying t = some (.map k e) := by
 unfold bw.desc at h
 split at h
 ·rename_i i hi; have := (hE.ty t i hi).2; simp at h; rw [h] at this; exact this
 simp at h
theorem bw.Ok.Er (hE : E.Ok P) {t : TypeId} {fs : List (Nat × TypeId)} (h : E.desc t = some (.struct fs)) :
  ∃ fields : Array Field, P.underlying t = some (.struct fields) /\ fields.toList.map (fun f => (f.offset, f.type)) = fs ∧
   ∃ places, fields.toList.mapM (fun f => (P.info? f.type).map fun i => (f.offset, i.size)) = some places := by
 unfold bw.desc at h
 split at h
 ·rename_i i hi; have := (hE.ty t i hi).2; simp at h; rw [h] at this; exact this
 simp at h
theorem bw.Ok.GM (hE : E.Ok P) {t e : TypeId} {n : Nat} (h : E.desc t = some (.array n e)) : P.underlying t = some (.array n e) := by
 unfold bw.desc at h
 split at h
 ·rename_i i hi; have := (hE.ty t i hi).2; simp at h; rw [h] at this; exact this
 simp at h
theorem aW {t : TypeId} {d : TypeDesc} (h : P.underlying t = some d) : (underlying t).run P w = .ok d w := by
 simp [underlying, h]
theorem CT {t : TypeId} {i : TypeInfo} (h : P.info? t = some i) : (typeInfo t).run P w = .ok i w := by
 simp [typeInfo, h]
theorem bw.Ok.eN (hE : E.Ok P) {t : TypeId} {i : TI} (h : E.ty t = some i) : (sizeOf t).run P w = .ok i.size w := by
 obtain ⟨⟨j, h1, h2, _⟩, _⟩ := hE.ty t i h
 simp [sizeOf, CT h1, h2]
theorem bw.Ok.wQ (hE : E.Ok P) {t : TypeId} {i : TI} (h : E.ty t = some i) : (zeroValue t).run P w = .ok i.zero w := by
 obtain ⟨⟨j, h1, _, _, h4, _⟩, _⟩ := hE.ty t i h
 simp [zeroValue, CT h1, h4]
theorem bw.Ok.jH (hE : E.Ok P) {t : TypeId} {i : TI} (h : E.ty t = some i) : (isAgg t).run P w = .ok i.isAgg w := by
 have hk := (hE.ty t i h).2
 unfold isAgg TI.isAgg
 cases hd : i.desc with
 | bool => rw [hd] at hk; simp [aW hk]
 | int k => rw [hd] at hk; simp [aW hk]
 | string => rw [hd] at hk; simp [aW hk]
 | pointer => rw [hd] at hk; obtain ⟨e, hk⟩ := hk; simp [aW hk]
 | slice e => rw [hd] at hk; simp [aW hk]
 | map k e => rw [hd] at hk; simp [aW hk]
 | func => rw [hd] at hk; obtain ⟨a, b, c, hk⟩ := hk; simp [aW hk]
 | struct fs => rw [hd] at hk; obtain ⟨fields, hk, _⟩ := hk; simp [aW hk]
 | array n e => rw [hd] at hk; simp [aW hk]
/-! #### Scalars -/
theorem iz {k : IntKind} {a : Int} : bV (.int k a) = true ↔ k.min <= a /\ a <= k.max := by simp [bV]
theorem iX (k : IntKind) (n : Int) : bV (.int k (k.wrap n)) = true := iz.2 (wrap_within k n)
theorem Ai (k : IntKind) : k.min <= 0 /\ 0 <= k.max := by cases k <;> simp [IntKind.min, IntKind.max, IntKind.bits, IntKind.signed]
theorem Cw {k : IntKind} {a b : Int} (h : bV (.int k a) = true) : bV (.int k (a.tmod b)) = true := by
 rw [iz] at h ⊢
 have hz := Ai k
 rcases Int.le_total 0 a with ha | ha
 ·have h1 := Int.tmod_nonneg b ha
  have h2 : a.tmod b <= a := by
   have h3 := Int.natAbs_tmod a b
   have h4 := Nat.mod_le a.natAbs b.natAbs
   omega
  omega
 have h1 : a.tmod b <= 0 := by
  have := Int.tmod_nonneg b (show 0 <= -a by omega)
  rw [Int.neg_tmod] at this
  omega
 have h2 : a <= a.tmod b := by
  have h3 := Int.natAbs_tmod a b
  have h4 := Nat.mod_le a.natAbs b.natAbs
  omega
 omega
theorem Ed {k : IntKind} {a : Int} (m : Nat) (h : bV (.int k a) = true) : bV (.int k (a.fdiv (2 ^ m))) = true := by
 rw [iz] at h ⊢
 have hz := Ai k
 have hp : (0 : Int) < 2 ^ m := Int.pow_pos (by decide)
 have e : a.fdiv (2 ^ m) = a / 2 ^ m := Int.fdiv_eq_ediv_of_nonneg a (Int.le_of_lt hp)
 rw [e]
 rcases Int.le_total 0 a with ha | ha
 ·have h1 := Int.ediv_nonneg ha (Int.le_of_lt hp)
  have h2 := Int.ediv_le_self (2 ^ m) ha
  omega
 have h1 : a / 2 ^ m <= 0 := by
  have := Int.ediv_le_ediv hp ha
  simpa using this
 have h2 : a <= a / 2 ^ m := by
  apply Int.le_ediv_of_mul_le hp
  have : a * 2 ^ m <= a * 1 := Int.mul_le_mul_of_nonpos_left ha (by omega)
  omega
 omega
theorem Gi {op : BinOp} {k : IntKind} {a b : Int} {v : Value} (h : Gj az.ln op k a b = some v) (ha : bV (.int k a) = true) (h1 : op ≠ .shl) (h2 : op ≠ .shr) (t : TypeId) :
  (binOp op t (.int k a) (.int k b)).run P w = .ok v w /\ bV v = true := by
 cases op <;> simp only [Gj, az.ln, beq_iff_eq, Option.some.injEq, reduceCtorEq, Option.ite_none_left_eq_some] at h <;> first
  |(subst h; exact ⟨by simp [binOp, Op.intArith, Op.intCmp], iX _ _⟩)
  |(subst h; simp [binOp, Op.intArith, Op.intCmp, bV]; done)
  |(subst h; refine ⟨?_, rfl⟩; simp [binOp, Op.intCmp]; done)
  |(subst h; refine ⟨?_, rfl⟩; simp [binOp, Op.intCmp]; rfl)
  |(subst h; refine ⟨?_, rfl⟩; simp [binOp, Op.intCmp]; rw [Bool.eq_iff_iff]; simp)
  |(obtain ⟨h0, rfl⟩ := h; exact ⟨by simp [binOp, Op.intDiv, h0], iX _ _⟩)
  |(obtain ⟨h0, rfl⟩ := h; exact ⟨by simp [binOp, Op.intDiv, h0], Cw ha⟩)
  |(exact absurd rfl h1)
  |(exact absurd rfl h2)
theorem E7 {op : BinOp} {a b : ByteArray} {v : Value} (h : E8 az.ln op a b = some v) (t : TypeId) :
  (binOp op t (.string a) (.string b)).run P w = .ok v w /\ bV v = true := by
 cases op <;> simp [E8, az.ln] at h <;> first
  |(subst h; simp [binOp, Op.stringOp, bV])
  |(split at h
    ·rename_i hz
     simp at hz h
     obtain ⟨h0, rfl⟩ := hz
     subst h
     simp [binOp, Op.stringOp, bV]
     omega
    ·simp at h)
theorem zg (d : Nat) {t : TypeId} (h : P.underlying t = some .bool) (a b : Bool) : (Op.equalIn (d + 1) t (.bool a) (.bool b)).run P w = .ok (a == b) w := by
 simp [Op.equalIn, aW h]
theorem A3 (d : Nat) {t e : TypeId} (h : P.underlying t = some (.pointer e)) (a : Option Addr) : (Op.equalIn (d + 1) t (.pointer a) (.pointer none)).run P w = .ok a.isNone w := by
 cases a <;> simp [Op.equalIn, aW h]
theorem vq (d : Nat) {t k e : TypeId} (h : P.underlying t = some (.map k e)) (a : Option Nat) : (Op.equalIn (d + 1) t (.map a) (.map none)).run P w = .ok a.isNone w := by
 cases a <;> simp [Op.equalIn, aW h]
theorem qM (d : Nat) {t e : TypeId} (h : P.underlying t = some (.slice e)) (a : Option Addr) (l c : Nat) : (Op.equalIn (d + 1) t (.slice a l c) (.slice none 0 0)).run P w = .ok a.isNone w := by
 cases a <;> simp [Op.equalIn, aW h]
theorem pz {t e : TypeId} (h : P.underlying t = some (.slice e)) (a : Option Addr) (l c : Nat) :
  (binOp .eql t (.slice a l c) (.slice none 0 0)).run P w = .ok (.bool a.isNone) w /\ (binOp .neq t (.slice a l c) (.slice none 0 0)).run P w = .ok (.bool !a.isNone) w := by
 have h' : (Op.equal t (.slice a l c) (.slice none 0 0)).run P w = .ok a.isNone w := qM 9999 h a l c
 constructor <;> simp only [binOp, Sem.run_bind, h'] <;> rfl
theorem run_eql_bool {t : TypeId} (h : P.underlying t = some .bool) (a b : Bool) :
  (binOp .eql t (.bool a) (.bool b)).run P w = .ok (.bool (a == b)) w /\ (binOp .neq t (.bool a) (.bool b)).run P w = .ok (.bool !(a == b)) w := by
 have h' : (Op.equal t (.bool a) (.bool b)).run P w = .ok (a == b) w := zg 9999 h a b
 constructor <;> simp only [binOp, Sem.run_bind, h'] <;> rfl
theorem kj {t e : TypeId} (h : P.underlying t = some (.pointer e)) (a : Option Addr) :
  (binOp .eql t (.pointer a) (.pointer none)).run P w = .ok (.bool a.isNone) w /\ (binOp .neq t (.pointer a) (.pointer none)).run P w = .ok (.bool !a.isNone) w := by
 have h' : (Op.equal t (.pointer a) (.pointer none)).run P w = .ok a.isNone w := A3 9999 h a
 constructor <;> simp only [binOp, Sem.run_bind, h'] <;> rfl
theorem CU {t k e : TypeId} (h : P.underlying t = some (.map k e)) (a : Option Nat) :
  (binOp .eql t (.map a) (.map none)).run P w = .ok (.bool a.isNone) w /\ (binOp .neq t (.map a) (.map none)).run P w = .ok (.bool !a.isNone) w := by
 have h' : (Op.equal t (.map a) (.map none)).run P w = .ok a.isNone w := vq 9999 h a
 constructor <;> simp only [binOp, Sem.run_bind, h'] <;> rfl
theorem D4 (hE : E.Ok P) {op : BinOp} {t : TypeId} {x y v : Value} (h : vZ E.pr op (E.desc t) x y = some v) (hx : bV x = true) (X Y : Operand) :
  ((do eqGuard op t X Y x y; binOp op t x y) : Sem Value).run P w = .ok v w /\ bV v = true := by
 rw [hE.ln] at h
 unfold vZ at h
 split at h
 ·rename_i k a k' b
  split at h
  ·simp at h
  rename_i hb
  simp [az.ln] at h hb
  subst h
  exact ⟨by simp [eqGuard, binOp, Op.shift]; intro hc; omega, iX _ _⟩
 ·rename_i k a k' b
  split at h
  ·simp at h
  rename_i hb
  simp [az.ln] at h hb
  subst h
  exact ⟨by simp [eqGuard, binOp, Op.shift]; intro hc; omega, Ed _ hx⟩
 ·rename_i k a k' b hs1 hs2
  split at h
  ·rename_i hk
   subst hk
   obtain ⟨h1, h2⟩ := Gi (P := P) (w := w) h hx hs1 hs2 t
   refine ⟨?_, h2⟩
   simp only [Sem.run_bind]
   have : (eqGuard op t X Y (.int k a) (.int k b)).run P w = .ok () w := by
    unfold eqGuard; cases op <;> simp
   rw [this]
   simpa using h1
  simp at h
 ·rename_i a b
  obtain ⟨h1, h2⟩ := E7 (P := P) (w := w) h t
  refine ⟨?_, h2⟩
  simp only [Sem.run_bind]
  have : (eqGuard op t X Y (.string a) (.string b)).run P w = .ok () w := by
   unfold eqGuard; cases op <;> simp
  rw [this]
  simpa using h1
 ·split at h
  ·rename_i hd
   simp at h
   subst h
   have hb := fun a b => (run_eql_bool (w := w) (hE.Av hd) a b).1
   exact ⟨by simp [eqGuard, hb], rfl⟩
  simp at h
 ·split at h
  ·rename_i hd
   simp at h
   subst h
   have hb := fun a b => (run_eql_bool (w := w) (hE.Av hd) a b).2
   exact ⟨by simp [eqGuard, hb], rfl⟩
  simp at h
 ·split at h
  ·rename_i hd
   obtain ⟨e, he⟩ := hE.jC hd
   simp at h
   subst h
   have hb := fun a => (kj (w := w) he a).1
   exact ⟨by simp [eqGuard, hb], rfl⟩
  simp at h
 ·split at h
  ·rename_i hd
   obtain ⟨e, he⟩ := hE.jC hd
   simp at h
   subst h
   have hb := fun a => (kj (w := w) he a).2
   exact ⟨by simp [eqGuard, hb], rfl⟩
  simp at h
 simp at h
end
end Go.Tp

namespace Go.Tp
section
variable {P : Program} {E : bw} {w : World} {R : Own} {N : Name -> Option Nat}
theorem add_plain (b off n : Nat) : (Addr.add ⟨b, off, none⟩ n) = ⟨b, off + n, none⟩ := by
 unfold Addr.add
 split
 ·rename_i h; subst h; rfl
 rfl
theorem mu (hE : E.Ok P) {st : TypeId} {f off : Nat} {i : TI} (h : kD E st f = some (off, i)) :
  ∃ (fields : Array Field) (fld : Field), P.underlying st = some (.struct fields) /\ fields[f]? = some fld /\ fld.offset = off /\ E.ty fld.type = some i := by
 unfold kD at h
 split at h
 ·rename_i fs hd
  obtain ⟨fields, hu, hm, _⟩ := hE.Er hd
  split at h
  ·rename_i off' ft hf
   split at h
   ·rename_i j hj
    simp at h
    obtain ⟨rfl, rfl⟩ := h
    rw [← hm, List.getElem?_map] at hf
    cases hg : fields.toList[f]? with
    | none => simp [hg] at hf
    | some fld =>
     simp [hg] at hf
     exact ⟨fields, fld, hu, by simpa using hg, hf.1, by rw [hf.2]; exact hj⟩
   simp at h
  simp at h
 simp at h
theorem pX : ∀ {cs : List an} {b off : Nat} (k : Nat), dE w R b off cs -> dE w R b (off + k) (cs.drop k)
 | cs, b, off, 0, h => by simpa using h
 | [], _, _, k + 1, _ => by simp [dE]
 | c :: cs, b, off, k + 1, h => by
  have := pX k h.2
  simpa [Nat.add_assoc, Nat.add_comm 1 k] using this
theorem uc (hE : E.Ok P) {st : TypeId} {f off : Nat} {i : TI} (h : kD E st f = some (off, i)) (h0 : i.size ≠ 0) (b o : Nat) :
  (Instr.fieldAt st (.pointer (some ⟨b, o, none⟩)) f).run P w = .ok (.pointer (some ⟨b, o + off, none⟩)) w := by
 obtain ⟨fields, fld, h1, h2, h3, h4⟩ := mu hE h
 simp [Instr.fieldAt, aW h1, h2, Instr.sureAddr, fieldPlace, hE.eN h4, h0, add_plain, h3]
theorem vp (hE : E.Ok P) {st : TypeId} {f : Nat} {a : ac} {x : Value} {out : Out} (h : kb E st f [a] = some out) (hr : ak w R N a x []) :
  out.eff = .keep /\ ∃ cv, (Instr.fieldAt st x f).run P w = .ok cv w /\ ak w R N out.val cv [] := by
 cases a with
 | ref cs =>
  simp only [ak] at hr
  obtain ⟨_, b, o, rfl, hat⟩ := hr
  simp only [kb] at h
  split at h
  ·rename_i off i hf
   split at h
   ·simp at h
   rename_i h0
   simp at h
   subst h
   exact ⟨rfl, _, uc hE hf h0 b o, by simp only [ak]; exact ⟨trivial, b, _, rfl, pX off hat⟩⟩
  simp at h
 | ptr n o =>
  simp only [ak] at hr
  obtain ⟨_, b, hb, rfl⟩ := hr
  simp only [kb] at h
  split at h
  ·rename_i off i hf
   split at h
   ·simp at h
   rename_i h0
   simp at h
   subst h
   exact ⟨rfl, _, uc hE hf h0 b o, by simp only [ak]; exact ⟨trivial, b, hb, rfl⟩⟩
  simp at h
 | _ => simp [kb] at h
/-! #### Cells in rows -/
theorem xc : ∀ {vs : List Value} {cs : List an} (k : Nat), cR w R vs cs -> cR w R (vs.drop k) (cs.drop k)
 | vs, cs, 0, h => by simpa using h
 | [], [], _ + 1, _ => trivial
 | _ :: vs, _ :: cs, k + 1, h => by simpa using xc k h.2
 | [], _ :: _, _, h => h.elim
 | _ :: _, [], _, h => h.elim
theorem pW : ∀ {vs : List Value} {cs : List an} (k : Nat), cR w R vs cs -> cR w R (vs.take k) (cs.take k)
 | vs, cs, 0, _ => by simp [cR]
 | [], [], _ + 1, _ => trivial
 | _ :: vs, _ :: cs, k + 1, h => by simpa [cR] using ⟨h.1, pW k h.2⟩
 | [], _ :: _, _, h => h.elim
 | _ :: _, [], _, h => h.elim
/-- The values of immutable cells. -/
theorem xd : ∀ {cs : List an} {b off : Nat}, dE w R b off cs -> ∃ vs : List Value, cR w R vs cs /\ ∀ (j : Nat) (v : Value), vs[j]? = some v -> w.cell? ⟨b, off + j, none⟩ = some v
 | [], _, _, _ => ⟨[], trivial, by simp⟩
 | c :: cs, b, off, h => by
  obtain ⟨v, hc, _, hr⟩ := h.1
  obtain ⟨vs, h1, h2⟩ := xd h.2
  refine ⟨v :: vs, ⟨hr, h1⟩, fun j u hj => ?_⟩
  cases j with
  | zero => simp at hj; subst hj; simpa using hc
  | succ j => simp at hj; have := h2 j u hj; simpa [Nat.add_assoc, Nat.add_comm 1 j] using this
/-- Cells that lie in a row, loaded as a variable of the type. -/
theorem ng (hE : E.Ok P) {t : TypeId} {i : TI} (ht : E.ty t = some i) {b off : Nat} {vs : List Value}
  (hc : ∀ (j : Nat) (v : Value), vs[j]? = some v -> w.cell? ⟨b, off + j, none⟩ = some v) (hn : i.size <= vs.length) (h1 : i.isAgg = false -> 0 < vs.length) :
  (loadVar t ⟨b, off, none⟩).run P w = .ok (if i.isAgg then .agg (vs.take i.size).toArray else vs.headD undef) w := by
 unfold loadVar
 simp only [Sem.run_bind, hE.jH ht, Result.andThen_ok]
 cases ha : i.isAgg with
 | true =>
  simp only [if_true, Sem.run_bind, hE.eN ht, Result.andThen_ok]
  have := run_loadCells_list (P := P) (w := w) ⟨b, off, none⟩ (vs.take i.size) (fun j v hj => by
   rw [add_plain]
   refine hc j v ?_
   rw [List.getElem?_take] at hj
   split at hj
   ·exact hj
   simp at hj)
  rw [show (vs.take i.size).length = i.size by simp; omega] at this
  rw [this]
  simp
 | false =>
  have h0 := h1 ha
  cases vs with
  | nil => simp at h0
  | cons v vs =>
   have := hc 0 v (by simp)
   simp at this
   simp [this]
theorem Bu (hE : E.Ok P) {t : TypeId} {i : TI} (ht : E.ty t = some i) {cs : List an} {v : ac} (h : jS i cs = some v) {b off : Nat} (hat : dE w R b off cs) :
  ∃ cv, (loadVar t ⟨b, off, none⟩).run P w = .ok cv w /\ ak w R N v cv [] := by
 obtain ⟨vs, h1, h2⟩ := xd hat
 have hl := cA h1
 unfold jS at h
 split at h
 ·rename_i ha
  dsimp only at h
  split at h
  ·rename_i hlen
   simp at h
   subst h
   simp at hlen
   refine ⟨_, ng hE ht h2 (by omega) (by simp [ha]), ?_⟩
   rw [if_pos ha]
   exact bS ⟨vs.take i.size, rfl, pW _ h1⟩
  simp at h
 rename_i ha
 have ha' : i.isAgg = false := by simpa using ha
 cases vs with
 | nil =>
  cases cs with
  | nil => simp at h
  | cons c cs => simp at hl
 | cons u us =>
  cases cs with
  | nil => simp at hl
  | cons c cs =>
   have hsz : i.size <= (u :: us).length ∨ True := .inr trivial
   have hrun : (loadVar t ⟨b, off, none⟩).run P w = .ok u w := by
    unfold loadVar
    have h0 := h2 0 u (by simp)
    simp at h0
    simp [hE.jH ht, ha', h0]
   refine ⟨u, hrun, ?_⟩
   obtain ⟨hu, _⟩ := h1
   cases c with
   | flat x => simp at h; subst h; exact bS (d := .flat x) hu
   | slice es => simp at h; subst h; exact bS (d := .slice es) hu
   | agg ds => simp at h
end
end Go.Tp

namespace Go.Tp
section
variable {P : Program} {E : bw} {w : World} {R : Own} {N : Name -> Option Nat}
theorem I5 (hE : E.Ok P) {op : BinOp} {t : TypeId} {a b : ac} {x y : Value} {out : Out} (h : Kr E op t [a, b] = some out)
  (ha : ak w R N a x []) (hb : ak w R N b y []) (X Y : Operand) :
  out.eff = .keep /\ ∃ cv, ((do eqGuard op t X Y x y; binOp op t x y) : Sem Value).run P w = .ok cv w /\ ak w R N out.val cv [] := by
 unfold Kr at h
 split at h
 ·rename_i u v heq
  simp at heq
  obtain ⟨rfl, rfl⟩ := heq
  obtain ⟨_, rfl, hx⟩ := aF ha
  obtain ⟨_, rfl, _⟩ := aF hb
  cases hf : vZ E.pr op (E.desc t) x y with
  | none => simp [hf, Tx] at h
  | some r =>
   simp [hf, Tx] at h
   subst h
   obtain ⟨h1, h2⟩ := D4 (w := w) hE hf hx X Y
   exact ⟨rfl, r, h1, bD h2⟩
 ·rename_i u v _ heq
  simp at heq
  obtain ⟨rfl, rfl⟩ := heq
  cases hf : FR op (E.desc t) a b with
  | none => simp [hf, Tx] at h
  | some r =>
   simp [hf, Tx] at h
   subst h
   unfold FR at hf
   split at hf
   ·have hd : E.desc t = some .pointer := by assumption
    obtain ⟨e, he⟩ := hE.jC hd
    obtain ⟨_, rfl, _⟩ := aF hb
    simp only [ak] at ha
    obtain ⟨_, bl, _, rfl⟩ := ha
    have hb := fun a => kj (w := w) he a
    cases op <;> simp at hf <;> subst hf <;> refine ⟨rfl, _, ?_, bD rfl⟩ <;> simp [eqGuard, hb]
   ·have hd : E.desc t = some .pointer := by assumption
    obtain ⟨e, he⟩ := hE.jC hd
    obtain ⟨_, rfl, _⟩ := aF hb
    simp only [ak] at ha
    obtain ⟨_, bl, o, rfl, _⟩ := ha
    have hb := fun a => kj (w := w) he a
    cases op <;> simp at hf <;> subst hf <;> refine ⟨rfl, _, ?_, bD rfl⟩ <;> simp [eqGuard, hb]
   ·obtain ⟨k, e, hd⟩ : ∃ k e, E.desc t = some (.map k e) := ⟨_, _, by assumption⟩
    have he := hE.lG hd
    obtain ⟨_, rfl, _⟩ := aF hb
    simp only [ak] at ha
    obtain ⟨_, bl, _, rfl⟩ := ha
    have hb := fun a => CU (w := w) he a
    cases op <;> simp at hf <;> subst hf <;> refine ⟨rfl, _, ?_, bD rfl⟩ <;> simp [eqGuard, hb]
   simp at hf
 simp at h
theorem wz (hE : E.Ok P) {op : BinOp} {t : TypeId} {a b : ac} {x : Value} {out : Out} (h : tQ E op t [a, b] = some out)
  (ha : ak w R N a x []) (X Y : Operand) :
  out.eff = .keep /\ ∃ cv, ((do eqGuard op t X Y x (.slice none 0 0); binOp op t x (.slice none 0 0)) : Sem Value).run P w = .ok cv w /\ ak w R N out.val cv [] := by
 simp only [tQ] at h
 split at h
 ·obtain ⟨e, hd⟩ : ∃ e, E.desc t = some (.slice e) := ⟨_, by assumption⟩
  have he := hE.iB hd
  have key : ∀ ad l c, x = .slice (some ad) l c -> notNil op = some out ->
    out.eff = .keep /\ ∃ cv, ((do eqGuard op t X Y x (.slice none 0 0); binOp op t x (.slice none 0 0)) : Sem Value).run P w = .ok cv w /\ ak w R N out.val cv [] := by
   intro ad l c hx h
   subst hx
   have hb := fun a => pz (w := w) he a l c
   cases op <;> simp [notNil] at h <;> subst h <;> refine ⟨rfl, _, ?_, bD rfl⟩ <;> simp [eqGuard, hb]
  split at h
  ·simp only [ak] at ha
   obtain ⟨_, bl, cap, _, rfl, _⟩ := ha
   exact key _ _ _ rfl h
  ·simp only [ak] at ha
   obtain ⟨_, ha⟩ := ha
   cases ha with
   | slice b off cap s es vs hs hlen hcap hb hcell hrep => exact key _ _ _ rfl h
  ·obtain ⟨_, rfl, _⟩ := aF ha
   have hb := pz (w := w) he none 0 0
   cases op <;> simp [Ky] at h <;> subst h <;> refine ⟨rfl, _, ?_, bD rfl⟩ <;> simp [eqGuard, hb]
  simp at h
 simp at h
theorem Ln (hE : E.Ok P) {op : UnOp} {a : ac} {x : Value} {out : Out} (h : YG E op [a] = some out) (ha : ak w R N a x []) :
  out.eff = .keep /\ ∃ cv, (Op.unary op x).run P w = .ok cv w /\ ak w R N out.val cv [] := by
 unfold YG at h
 split at h
 ·rename_i b heq
  simp at heq
  subst heq
  obtain ⟨_, rfl, _⟩ := aF ha
  cases op <;> simp at h
  subst h
  exact ⟨rfl, _, by simp [Op.unary], bD rfl⟩
 ·rename_i k n heq
  simp at heq
  subst heq
  obtain ⟨_, rfl, _⟩ := aF ha
  cases op <;> simp [hE.ln, az.ln] at h
  subst h
  refine ⟨rfl, .int k (k.wrap (0 - n)), by simp [Op.unary, Op.intArith], ?_⟩
  simpa using bD (N := N) (R := R) (w := w) (v := .int k (k.wrap (0 - n))) (iX _ _)
 simp at h
theorem lV : ∀ {vs : List Value} {cs : List an}, vs.length = cs.length -> (∀ (j : Nat) v c, vs[j]? = some v -> cs[j]? = some c -> ep w R v c) -> cR w R vs cs
 | [], [], _, _ => trivial
 | v :: vs, c :: cs, hl, h => ⟨h 0 v c (by simp) (by simp), lV (by simpa using hl) (fun j v c h1 h2 => h (j + 1) v c (by simpa using h1) (by simpa using h2))⟩
 | [], _ :: _, hl, _ => by simp at hl
 | _ :: _, [], hl, _ => by simp at hl
theorem ot : ∀ {es : List an} {ns : List Int} {cells : List Value}, dL es = some ns -> cR w R cells es -> cells = ns.map (Value.int .u8) /\ ns.length = es.length
 | [], ns, cells, h, hr => by
  simp [dL] at h
  subst h
  cases cells with
  | nil => exact ⟨rfl, rfl⟩
  | cons => exact hr.elim
 | d :: es, ns, cells, h, hr => by
  unfold dL at h
  split at h
  ·simp at *
  ·rename_i n r heq
   simp at heq
   obtain ⟨rfl, rfl⟩ := heq
   split at h
   ·rename_i ms hms
    simp at h
    subst h
    cases cells with
    | nil => exact hr.elim
    | cons c cells =>
     obtain ⟨h1, h2⟩ := hr
     obtain ⟨e1, e2⟩ := ot hms h2
     cases h1 with
     | flat _ => exact ⟨by rw [e1]; rfl, by simp [e2]⟩
   simp at h
  simp at h
theorem kZ : ∀ {es : List an} {ns : List Int}, dL es = some ns -> es.flatMap an.cells = es /\ ∀ d ∈ es, d.cells.length = 1
 | [], _, _ => ⟨rfl, by simp⟩
 | d :: es, ns, h => by
  unfold dL at h
  split at h
  ·simp at *
  ·rename_i n r heq
   simp at heq
   obtain ⟨rfl, rfl⟩ := heq
   split at h
   ·rename_i ms hms
    obtain ⟨e1, e2⟩ := kZ hms
    refine ⟨by simp [List.flatMap_cons, e1, an.cells], ?_⟩
    intro x hx
    rcases List.mem_cons.1 hx with rfl | hx
    ·rfl
    exact e2 x hx
   simp at h
  simp at h
theorem mR : ∀ {es : List an} {ns : List Int}, dL es = some ns -> ns.length = es.length
 | [], ns, h => by simp [dL] at h; subst h; rfl
 | d :: es, ns, h => by
  unfold dL at h
  split at h
  ·simp at *
  ·rename_i n r heq
   simp at heq
   obtain ⟨rfl, rfl⟩ := heq
   split at h
   ·rename_i ms hms
    simp at h
    subst h
    simp [mR hms]
   simp at h
  simp at h
theorem zj (ns : List Int) : (lu ns).size = ns.length := by
 unfold lu
 have : ∀ (ns : List Int) (b : ByteArray), (ns.foldl (fun r n => r.push (UInt8.ofNat n.toNat)) b).size = b.size + ns.length := by
  intro ns
  induction ns with
  | nil => intro b; rfl
  | cons n ns ih => intro b; simp only [List.foldl_cons, ih, List.length_cons]; simp [ByteArray.size_push]; omega
 simpa using this ns ByteArray.empty
theorem sI {v : Value} {es : List an} {ns : List Int} (h : ep w R v (.slice es)) (hb : dL es = some ns) :
  (Conv.bytesToString v).run P w = .ok (.string (lu ns)) w /\ bV (.string (lu ns)) = true := by
 have hlen : ns.length <= jv := by
  obtain ⟨_, e2⟩ := kZ hb
  have : ns.length = es.length := mR hb
  rw [this]
  cases h with
  | nil => simp
  | slice => assumption
 refine ⟨?_, by simp only [bV, zj, decide_eq_true_eq]; unfold jv at hlen; omega⟩
 obtain ⟨e1, e2⟩ := kZ hb
 cases h with
 | nil a cap =>
  simp [dL] at hb
  subst hb
  cases a with
  | none => simp [Conv.bytesToString, lu]
  | some a =>
   rw [run_bytesToString w a 0 cap [] (by simpa using run_loadCells_list (P := P) (w := w) a [] (by intro j v hj; simp at hj))]
   rfl
 | slice b off cap s es vs hs hl hcap hb' hcell hrep =>
  by_cases hne : es = []
  ·subst hne
   simp [dL] at hb
   subst hb
   rw [List.length_nil, run_bytesToString w _ 0 cap [] (by simpa using run_loadCells_list (P := P) (w := w) _ [] (by intro j v hj; simp at hj))]
   rfl
  have hs1 : s = 1 := by
   cases es with
   | nil => exact absurd rfl hne
   | cons d es => rw [← hl d (by simp), e2 d (by simp)]
  subst hs1
  have hcs : cR w R ((List.range es.length).map fun i => vs i 0) es := by
   apply lV
   ·simp
   intro i v d hv hd
   rw [List.getElem?_map] at hv
   cases hi : (List.range es.length)[i]? with
   | none => rw [hi] at hv; simp at hv
   | some i' =>
   rw [hi] at hv
   obtain ⟨hi1, hi2⟩ := List.getElem?_eq_some_iff.1 hi
   simp at hi2 hv
   subst hi2
   subst hv
   have hd1 : d.cells[0]? = some d := by
    have hm := e2 d (List.mem_of_getElem? hd)
    have : ∀ (es : List an) ns, dL es = some ns -> ∀ d ∈ es, d.cells = [d] := by
     intro es
     induction es with
     | nil => intro _ _ d hd; simp at hd
     | cons a es ih =>
      intro ns hb d hd
      unfold dL at hb
      split at hb
      ·simp at *
      ·rename_i n r heq
       simp at heq
       obtain ⟨rfl, rfl⟩ := heq
       split at hb
       ·rename_i ms hms
        rcases List.mem_cons.1 hd with rfl | hd
        ·rfl
        exact ih ms hms d hd
       simp at hb
      simp at hb
    rw [this es ns hb d (List.mem_of_getElem? hd)]; rfl
   exact hrep i 0 d d hd hd1
  obtain ⟨e3, e4⟩ := ot hb hcs
  have hload := run_loadCells_list (P := P) (w := w) ⟨b, off, none⟩ (ns.map (Value.int .u8)) (by
   intro j v hj
   rw [← e3, List.getElem?_map] at hj
   cases hi : (List.range es.length)[j]? with
   | none => rw [hi] at hj; simp at hj
   | some i' =>
   rw [hi] at hj
   obtain ⟨hi1, hi2⟩ := List.getElem?_eq_some_iff.1 hi
   simp at hi2 hj hi1
   subst hi2
   subst hj
   have := (hcell j 0 hi1 (by omega)).1
   simp only [Nat.mul_one, Nat.add_zero] at this
   have e : (Addr.add ⟨b, off, none⟩ j) = ⟨b, off + j, none⟩ := by
    simp only [Addr.add]
    split
    ·rename_i h0; subst h0; rfl
    rfl
   rw [e]; exact this)
  rw [run_bytesToString w _ es.length cap ns (by simpa [e4] using hload)]
  rfl
theorem zf (hE : E.Ok P) {s d : TypeId} {a : ac} {x : Value} {out : Out} (h : yX E s d [a] = some out) (ha : ak w R N a x []) :
  out.eff = .keep /\ ∃ cv, (convert s d x).run P w = .ok cv w /\ ak w R N out.val cv [] := by
 unfold yX at h
 split at h
 ·rename_i k n heq
  simp at heq
  subst heq
  obtain ⟨_, rfl, _⟩ := aF ha
  split at h
  ·rename_i k1 k2 h1 h2
   simp [hE.ln, az.ln] at h
   subst h
   exact ⟨rfl, _, by simp [convert, aW (hE.yr h1), aW (hE.yr h2), Conv.intToInt], bD (iX _ _)⟩
  simp at h
 ·rename_i y heq
  simp at heq
  subst heq
  obtain ⟨_, rfl, hy⟩ := aF ha
  split at h
  ·rename_i h1 h2
   simp at h
   subst h
   exact ⟨rfl, _, by simp [convert, aW (hE.fD h1), aW (hE.fD h2)], bD hy⟩
  simp at h
 ·rename_i es heq
  simp at heq
  subst heq
  obtain ⟨_, hr⟩ := dj ha
  split at h
  ·rename_i e h1 h2
   split at h
   ·rename_i ns h3 h4
    simp at h
    subst h
    obtain ⟨k1, k2⟩ := sI (P := P) hr h4
    refine ⟨rfl, _, ?_, bD k2⟩
    have hx : ∃ a l c, x = .slice a l c := by cases hr with
     | nil a c => exact ⟨a, 0, c, rfl⟩
     | slice b off cap => exact ⟨_, _, _, rfl⟩
    obtain ⟨a, l, c, rfl⟩ := hx
    rw [run_convert_bytes_string w s d e a l c (hE.iB h1) (hE.yr h3) (hE.fD h2)]
    exact k1
   simp at h
  simp at h
 simp at h
theorem eh (hE : E.Ok P) {t : TypeId} {i : TI} (h : elemOf E t = some i) : ∃ e, P.underlying t = some (.slice e) /\ E.ty e = some i := by
 unfold elemOf at h
 split at h
 ·rename_i e hd; exact ⟨e, hE.iB hd, h⟩
 simp at h
/-- The element of a slice that reads as data. -/
theorem Jg {v : Value} {es : List an} (h : ep w R v (.slice es)) {i : Nat} {d : an} (hi : es[i]? = some d) :
  ∃ b off cap, v = .slice (some ⟨b, off, none⟩) es.length cap /\ dE w R b (off + i * d.cells.length) d.cells := by
 cases h with
 | nil => simp at hi
 | slice b off cap s es vs hs hlen hcap hb hcell hrep =>
  have hd := hlen d (List.mem_of_getElem? hi)
  have hil : i < es.length := by
   rcases Nat.lt_or_ge i es.length with h' | h'
   ·exact h'
   rw [List.getElem?_eq_none h'] at hi; simp at hi
  refine ⟨b, off, cap, rfl, ?_⟩
  have key : ∀ (k : Nat) (cs : List an), d.cells.drop k = cs -> dE w R b (off + i * d.cells.length + k) cs := by
   intro k cs
   induction cs generalizing k with
   | nil => intro _; trivial
   | cons c cs ih =>
    intro hk
    have hj : d.cells[k]? = some c := by
     have := List.getElem?_drop (xs := d.cells) (i := k) (j := 0)
     rw [hk] at this
     simpa using this.symm
    have hkl : k < s := by
     rw [← hd]
     rcases Nat.lt_or_ge k d.cells.length with h' | h'
     ·exact h'
     rw [List.getElem?_eq_none h'] at hj; simp at hj
    obtain ⟨h1, h2⟩ := hcell i k hil hkl
    rw [hd]
    refine ⟨⟨vs i k, h1, h2, hrep i k d c hi hj⟩, ?_⟩
    have := ih (k + 1) (by rw [← List.drop_drop, hk]; rfl)
    rw [hd] at this
    simpa [Nat.add_assoc] using this
  simpa using key 0 d.cells (by simp)
theorem vo (hE : E.Ok P) {t : TypeId} {a b : ac} {x y : Value} {out : Out} (h : aL E t [a, b] = some out) (ha : ak w R N a x []) (hb : ak w R N b y []) :
  out.eff = .keep /\ ∃ cv, (Instr.indexAt t x y).run P w = .ok cv w /\ ak w R N out.val cv [] := by
 unfold aL at h
 split at h
 ·rename_i es k i heq
  simp at heq
  obtain ⟨rfl, rfl⟩ := heq
  obtain ⟨_, rfl, _⟩ := aF hb
  obtain ⟨_, hr⟩ := dj ha
  split at h
  ·rename_i ti hel
   obtain ⟨e, hu, ht⟩ := eh hE hel
   split at h
   ·rename_i d hd0
    have hd1 : 0 <= i /\ es[i.toNat]? = some d := by
     rw [hE.ln] at hd0
     simp only [az.ln] at hd0
     split at hd0
     ·exact ⟨by assumption, hd0⟩
     simp at hd0
    obtain ⟨h0, hd⟩ := hd1
    ·split at h
     ·rename_i hsz
      simp at h
      subst h
      obtain ⟨bl, off, cap, rfl, hat⟩ := Jg hr hd
      have hlt : i.toNat < es.length := by
       rcases Nat.lt_or_ge i.toNat es.length with h' | h'
       ·exact h'
       rw [List.getElem?_eq_none h'] at hd; simp at hd
      have hlt' : i < (es.length : Int) := by omega
      refine ⟨rfl, .pointer (some ⟨bl, off + i.toNat * ti.size, none⟩), ?_, ?_⟩
      ·simp [Instr.indexAt, asIntOf, aW hu, h0, hlt', hE.eN ht, add_plain]
      simp only [ak]; exact ⟨trivial, bl, _, rfl, by rw [← hsz.1]; exact hat⟩
     simp at h
   simp at h
  simp at h
 ·rename_i n s off len k i heq
  simp at heq
  obtain ⟨rfl, rfl⟩ := heq
  obtain ⟨_, rfl, _⟩ := aF hb
  simp only [ak] at ha
  obtain ⟨_, bl, cap, hN, rfl, hcap, hs0, hlt, hsz⟩ := ha
  split at h
  ·rename_i ti hel
   obtain ⟨e, hu, ht⟩ := eh hE hel
   split at h
   ·rename_i j _
    split at h
    ·rename_i hc
     simp only [Bool.and_eq_true, Nat.blt_eq, Nat.beq_eq] at hc
     obtain ⟨hj, rfl⟩ := hc
     simp at h
     subst h
     refine ⟨rfl, .pointer (some ⟨bl, off + j * ti.size, none⟩), ?_, ?_⟩
     ·have h0 : (0 : Int) <= (j : Int) := Int.natCast_nonneg j
      have hlt' : (j : Int) < (len : Int) := by omega
      simp [Instr.indexAt, asIntOf, aW hu, h0, hlt', hE.eN ht, add_plain]
      omega
     simp only [ak]; exact ⟨trivial, bl, hN, rfl⟩
    simp at h
   simp at h
  simp at h
 ·rename_i n off k i heq
  simp at heq
  obtain ⟨rfl, rfl⟩ := heq
  obtain ⟨_, rfl, _⟩ := aF hb
  simp only [ak] at ha
  obtain ⟨_, bl, hN, rfl⟩ := ha
  split at h
  ·rename_i len e hd
   have hu := hE.GM hd
   split at h
   ·rename_i ti j ht _
    split at h
    ·rename_i hj
     rw [Nat.blt_eq] at hj
     simp at h
     subst h
     refine ⟨rfl, .pointer (some ⟨bl, off + j * ti.size, none⟩), ?_, ?_⟩
     ·have h0 : (0 : Int) <= (j : Int) := Int.natCast_nonneg j
      have hlt' : (j : Int) < (len : Int) := by omega
      simp [Instr.indexAt, asIntOf, aW hu, h0, hlt', hE.eN ht, add_plain, Instr.sureAddr]
      intro hx; omega
     simp only [ak]; exact ⟨trivial, bl, hN, rfl⟩
    simp at h
   simp at h
  simp at h
 simp at h
theorem CL (hE : E.Ok P) {t : TypeId} {a b : ac} {x y : Value} {out : Out} (h : tS E t [a, b] = some out) (ha : ak w R N a x []) (hb : ak w R N b y []) :
  out.eff = .keep /\ ∃ cv, (Instr.index t x y).run P w = .ok cv w /\ ak w R N out.val cv [] := by
 unfold tS at h
 split at h
 ·rename_i s k i heq
  simp at heq
  obtain ⟨rfl, rfl⟩ := heq
  obtain ⟨_, rfl, _⟩ := aF hb
  obtain ⟨_, rfl, _⟩ := aF ha
  split at h
  ·rename_i hd
   split at h
   ·rename_i by_ hby0
    have hby1 : 0 <= i /\ s[i.toNat]? = some by_ := by
     rw [hE.ln] at hby0
     simp only [az.ln] at hby0
     split at hby0
     ·exact ⟨by assumption, hby0⟩
     simp at hby0
    obtain ⟨h0, hby⟩ := hby1
    ·simp at h
     subst h
     exact ⟨rfl, _, by simp [Instr.index, asIntOf, aW (hE.fD hd), h0, hby], bD (iz.2 (by have := by_.toNat_lt; simp [IntKind.min, IntKind.max, IntKind.bits, IntKind.signed]; omega))⟩
   simp at h
  simp at h
 simp at h
theorem dP : ∀ {as : List ac} {vs : List Value} {bs : List Nat} {i : Nat} {a : ac}, ag w R N as vs bs -> as[i]? = some a ->
  ∃ v b', vs[i]? = some v /\ ak w R N a v b' /\ b'.Sublist bs
 | [], _, _, _, _, _, h => by simp at h
 | x :: as, vs, bs, 0, a, h, hi => by
  obtain ⟨v, vs', b1, b2, rfl, rfl, h1, h2⟩ := aD h
  simp at hi; subst hi
  exact ⟨v, b1, by simp, h1, List.sublist_append_left ..⟩
 | x :: as, vs, bs, i + 1, a, h, hi => by
  obtain ⟨v, vs', b1, b2, rfl, rfl, h1, h2⟩ := aD h
  simp at hi
  obtain ⟨u, b', e1, e2, e3⟩ := dP h2 hi
  exact ⟨u, b', by simpa using e1, e2, e3.trans (List.sublist_append_right ..)⟩
theorem ze {i : Nat} {a : ac} {x : Value} {bs : List Nat} {out : Out} (h : sr i [a] = some out) (ha : ak w R N a x bs) :
  out.eff = .keep /\ ∃ cv b', (Instr.extract x i).run P w = .ok cv w /\ ak w R N out.val cv b' /\ b'.Sublist bs := by
 unfold sr at h
 split at h
 ·rename_i vs heq
  simp at heq
  subst heq
  simp only [ak] at ha
  obtain ⟨us, rfl, hr⟩ := ha
  split at h
  ·rename_i v hv
   simp at h
   subst h
   obtain ⟨u, b', e1, e2, e3⟩ := dP hr hv
   exact ⟨rfl, u, b', by simp [Instr.extract, e1], e2, e3⟩
  simp at h
 simp at h
theorem ue : ∀ {as : List ac} {vs : List Value} (k : Nat), ag w R N as vs [] -> ag w R N (ev k as) (vs.take k) [] /\ ag w R N (fY k as) (vs.drop k) []
 | as, vs, 0, h => by simpa [ev, fY] using ⟨aT, h⟩
 | [], _, k + 1, h => by obtain ⟨rfl, _⟩ := ba h; simpa [ev, fY] using aT
 | a :: as, vs, k + 1, h => by
  obtain ⟨v, vs', b1, b2, rfl, hb, h1, h2⟩ := aD h
  obtain ⟨rfl, rfl⟩ := List.append_eq_nil_iff.1 hb.symm
  obtain ⟨e1, e2⟩ := ue k h2
  exact ⟨by simpa [ev] using aH h1 e1, by simpa [fY] using e2⟩
theorem wA {f : Fn} {vals : List ac} {xs ys : List Value} {out : Out} (h : tR f xs.length vals = some out) (hr : ag w R N vals (xs ++ ys) []) :
  out.eff = .keep /\ ∃ cv, (Instr.makeFunc f xs.toArray ys.toArray).run P w = .ok cv w /\ ak w R N out.val cv [] := by
 simp [tR] at h
 subst h
 obtain ⟨h1, h2⟩ := ue xs.length hr
 simp at h1 h2
 refine ⟨rfl, _, rfl, ?_⟩
 simp only [ak]
 exact ⟨trivial, xs, ys, rfl, h1, h2⟩
theorem I4 (hE : E.Ok P) {a b : ac} {x y : Value} {out : Out} (h : RV E [a, b] = some out) (ha : ak w R N a x []) (hb : ak w R N b y []) (ats : Array TypeId) (ty : TypeId) :
  out.eff = .keep /\ ∃ cv, (Builtin.max_ ats ty #[x, y]).run P w = .ok cv w /\ ak w R N out.val cv [] := by
 unfold RV at h
 split at h
 ·rename_i k m k' n heq
  simp at heq
  obtain ⟨rfl, rfl⟩ := heq
  obtain ⟨_, rfl, hy⟩ := aF hb
  obtain ⟨_, rfl, hx⟩ := aF ha
  split at h
  ·rename_i hk
   simp [hE.ln, az.ln] at h
   subst h
   subst hk
   exact ⟨rfl, _, by simp [Builtin.max_, Builtin.max2], bD (by split <;> assumption)⟩
  simp at h
 simp at h
theorem I3 (hE : E.Ok P) {a b : ac} {x y : Value} {out : Out} (h : RU E [a, b] = some out) (ha : ak w R N a x []) (hb : ak w R N b y []) (ats : Array TypeId) (ty : TypeId) :
  out.eff = .keep /\ ∃ cv, (Builtin.min_ ats ty #[x, y]).run P w = .ok cv w /\ ak w R N out.val cv [] := by
 unfold RU at h
 split at h
 ·rename_i k m k' n heq
  simp at heq
  obtain ⟨rfl, rfl⟩ := heq
  obtain ⟨_, rfl, hy⟩ := aF hb
  obtain ⟨_, rfl, hx⟩ := aF ha
  split at h
  ·rename_i hk
   simp [hE.ln, az.ln] at h
   subst h
   subst hk
   exact ⟨rfl, _, by simp [Builtin.min_, Builtin.min2], bD (by split <;> assumption)⟩
  simp at h
 simp at h
end
end Go.Tp

namespace Go.Tp
section
variable {P : Program} {E : bw} {w : World} {R : Own} {N : Name -> Option Nat}
theorem mZ : ∀ (k : Nat) (l : List ac), ev k l = l.take k
 | 0, _ => by simp [ev]
 | _ + 1, [] => by simp [ev]
 | k + 1, _ :: l => by simp [ev, mZ k l]
theorem yq : ∀ (k : Nat) (l : List ac), fY k l = l.drop k
 | 0, _ => by simp [fY]
 | _ + 1, [] => by simp [fY]
 | k + 1, _ :: l => by simp [fY, yq k l]
theorem wY : ∀ {as : List ac} {vs : List Value} {bs : List Nat} (k : Nat), ag w R N as vs bs -> ∃ bs', ag w R N (as.drop k) (vs.drop k) bs'
 | as, vs, bs, 0, h => ⟨bs, by simpa using h⟩
 | [], _, _, k + 1, h => by obtain ⟨rfl, _⟩ := ba h; exact ⟨[], by simpa using aT⟩
 | a :: as, vs, bs, k + 1, h => by
  obtain ⟨v, vs', b1, b2, rfl, rfl, h1, h2⟩ := aD h
  simpa using wY k h2
theorem wV : ∀ {as : List ac} {vs : List Value} {bs : List Nat} (k : Nat), ag w R N as vs bs -> ∃ bs', ag w R N (as.take k) (vs.take k) bs'
 | as, vs, bs, 0, h => ⟨[], by simpa using aT⟩
 | [], _, _, k + 1, h => by obtain ⟨rfl, _⟩ := ba h; exact ⟨[], by simpa using aT⟩
 | a :: as, vs, bs, k + 1, h => by
  obtain ⟨v, vs', b1, b2, rfl, rfl, h1, h2⟩ := aD h
  obtain ⟨b', h3⟩ := wV k h2
  exact ⟨b1 ++ b', by simpa using aH h1 h3⟩
/-- What a load out of a row of cells gives. -/
theorem kT {i : TI} {off : Nat} {cs : List ac} {v : ac} (h : loadCells i off cs = some v) {vs : List Value} {bs : List Nat} (hr : ag w R N cs vs bs) :
  ∃ cv, ak w R N v cv [] /\ (i.isAgg = true -> cv = .agg ((vs.drop off).take i.size).toArray /\ off + i.size <= vs.length ∨ i.size = 0 /\ cv = .agg #[] /\ i.isAgg = true) /\ (i.isAgg = false -> vs[off]? = some cv) := by
 unfold loadCells at h
 split at h
 ·rename_i ha
  dsimp only at h
  split at h
  ·rename_i hl
   simp at h
   subst h
   rw [mZ, yq] at hl ⊢
   obtain ⟨b1, h1⟩ := wY off hr
   obtain ⟨b2, h2⟩ := wV i.size h1
   refine ⟨.agg ((vs.drop off).take i.size).toArray, jK (ia h2), fun _ => ?_, fun hh => by rw [ha] at hh; cases hh⟩
   by_cases h0 : i.size = 0
   ·exact .inr ⟨h0, by simp [h0], ha⟩
   refine .inl ⟨rfl, ?_⟩
   have := hr.length
   simp at hl
   omega
  simp at h
 rename_i ha
 have ha' : i.isAgg = false := by simpa using ha
 split at h
 ·rename_i es hes
  simp at h
  subst h
  obtain ⟨u, b', e1, e2, _⟩ := dP hr hes
  exact ⟨u, bS (d := .slice es) (bX e2).rep, (fun hh => by rw [ha'] at hh; cases hh), fun _ => e1⟩
 ·simp at h
 ·simp at h
 ·simp at h
 ·rename_i a hne1 hne2 hne3 hne4 hes
  simp at h
  subst h
  obtain ⟨u, b', e1, e2, _⟩ := dP hr hes
  refine ⟨u, ?_, (fun hh => by rw [ha'] at hh; cases hh), fun _ => e1⟩
  obtain rfl := kl e2 (fun es he => hne1 es (by rw [he])) (fun cs he => hne3 cs (by rw [he])) (fun cs he => hne4 cs (by rw [he]))
  exact e2
 simp at h
theorem vX {cs ps : List ac} {off : Nat} {a : ac} (h : cs[off]? = some a) : (cs ++ ps)[off]? = some a := by
 rw [List.getElem?_append_left (List.getElem?_eq_some_iff.1 h).1]; exact h
/-- A load does not look behind the cells that are known. -/
theorem kU {i : TI} {off : Nat} {cs ps : List ac} {v : ac} (h : loadCells i off cs = some v) : loadCells i off (cs ++ ps) = some v := by
 unfold loadCells at h ⊢
 split at h
 ·rename_i ha
  rw [if_pos ha]
  dsimp only at h ⊢
  rw [mZ, yq] at h ⊢
  split at h
  ·rename_i hl
   have e : ((cs ++ ps).drop off).take i.size = (cs.drop off).take i.size := by
    rw [List.length_take, List.length_drop] at hl
    by_cases h0 : i.size = 0
    ·simp [h0]
    rw [List.drop_append_of_le_length (by omega), List.take_append_of_le_length (by rw [List.length_drop]; omega)]
   rw [e, if_pos hl]
   exact h
  simp at h
 rename_i ha
 rw [if_neg ha]
 have hne : ∃ a, cs[off]? = some a := by
  cases hc : cs[off]? with
  | none => rw [hc] at h; simp at h
  | some a => exact ⟨a, rfl⟩
 obtain ⟨a, hc⟩ := hne
 rw [vX hc]
 rw [hc] at h
 exact h
theorem wR (hE : E.Ok P) {t : TypeId} {i : TI} (ht : E.ty t = some i) (vs : List Value) (off : Nat) (cv : Value)
  (h1 : i.isAgg = true -> cv = .agg ((vs.drop off).take i.size).toArray) (h2 : i.isAgg = false -> vs[off]? = some cv) :
  (part t vs.toArray off).run P w = .ok cv w := by
 unfold part
 simp only [Sem.run_bind, hE.jH ht, Result.andThen_ok]
 cases ha : i.isAgg with
 | true =>
  simp [hE.eN ht, h1 ha]
 | false =>
  have := h2 ha
  simp [this]
theorem CM (hE : E.Ok P) {st : TypeId} {f : Nat} {a : ac} {x : Value} {out : Out} (h : tT E st f [a] = some out) (ha : ak w R N a x []) :
  out.eff = .keep /\ ∃ cv, (Instr.field st x f).run P w = .ok cv w /\ ak w R N out.val cv [] := by
 cases a with
 | dat d =>
  cases d with
  | agg cs =>
   simp only [tT] at h
   split at h
   ·rename_i off i hf
    obtain ⟨fields, fld, h1, h2, h3, h4⟩ := mu hE hf
    obtain ⟨_, vs, rfl, hr⟩ := bY ha
    cases hl : jS i (cs.drop off) with
    | none => simp [hl, uB] at h
    | some v =>
     simp [hl, uB] at h
     subst h
     refine ⟨rfl, ?_⟩
     have hd := xc off hr
     have hlen := cA hd
     unfold jS at hl
     split at hl
     ·rename_i hag
      dsimp only at hl
      split at hl
      ·simp at hl
       subst hl
       refine ⟨.agg ((vs.drop off).take i.size).toArray, ?_, bS ⟨_, rfl, pW _ hd⟩⟩
       have := wR (w := w) hE h4 vs off (.agg ((vs.drop off).take i.size).toArray) (fun _ => rfl) (fun hh => by rw [hag] at hh; cases hh)
       simp [Instr.field, aW h1, h2, asAgg, h3, this]
      simp at hl
     rename_i hag
     have hag' : i.isAgg = false := by simpa using hag
     generalize hcs : cs.drop off = ds at hl hd hlen
     cases hvs : vs.drop off with
     | nil =>
      rw [hvs] at hlen hd
      cases ds with
      | nil => simp at hl
      | cons c ds => simp at hlen
     | cons u us =>
      rw [hvs] at hlen hd
      cases ds with
      | nil => simp at hlen
      | cons c ds =>
       have hget : vs[off]? = some u := by
        have := List.getElem?_drop (xs := vs) (i := off) (j := 0)
        rw [hvs] at this
        simpa using this.symm
       have hrun := wR (w := w) hE h4 vs off u (fun hh => by rw [hag'] at hh; cases hh) (fun _ => hget)
       have hrun' : (Instr.field st (.agg vs.toArray) f).run P w = .ok u w := by
        simp [Instr.field, aW h1, h2, asAgg, h3, hrun]
       refine ⟨u, hrun', ?_⟩
       cases c with
       | flat x => simp at hl; subst hl; exact bS (d := .flat x) hd.1
       | slice es => simp at hl; subst hl; exact bS (d := .slice es) hd.1
       | agg ds => simp at hl
   simp at h
  | _ => simp [tT] at h
 | agg cs =>
  simp only [tT] at h
  split at h
  ·rename_i off i hf
   obtain ⟨fields, fld, h1, h2, h3, h4⟩ := mu hE hf
   obtain ⟨vs, rfl, hr⟩ := gI ha
   cases hl : loadCells i off cs with
   | none => simp [hl, uB] at h
   | some v =>
    simp [hl, uB] at h
    subst h
    obtain ⟨cv, e1, e2, e3⟩ := kT hl hr
    refine ⟨rfl, cv, ?_, e1⟩
    have := wR (w := w) hE h4 vs off cv (fun hh => by
     rcases e2 hh with ⟨e, _⟩ | ⟨e0, e, _⟩
     ·exact e
     simp [e0, e]) e3
    simp [Instr.field, aW h1, h2, asAgg, h3, this]
  simp at h
 | _ => simp [tT] at h
/-- A load from an object of cells. -/
theorem lR (hE : E.Ok P) {t : TypeId} {i : TI} (ht : E.ty t = some i) {b off : Nat} {vs : Array Value} {elem : TypeId} {fz : Nat × Nat} (hb : w.heap[b]? = some (.cells vs elem fz))
  {cs : List ac} {bs : List Nat} (hr : ag w R N cs vs.toList bs) {v : ac} (h : loadCells i off cs = some v) :
  ∃ cv, (Instr.loadAt t (.pointer (some ⟨b, off, none⟩))).run P w = .ok cv w /\ ak w R N v cv [] := by
 obtain ⟨cv, e1, e2, e3⟩ := kT h hr
 refine ⟨cv, ?_, e1⟩
 have hcell : ∀ (j : Nat) (u : Value), (vs.toList.drop off)[j]? = some u -> w.cell? ⟨b, off + j, none⟩ = some u := by
  intro j u hj
  rw [List.getElem?_drop] at hj
  rw [cell_of_row w b (off + j) vs elem fz hb]
  simpa using hj
 have : (Instr.loadAt t (.pointer (some ⟨b, off, none⟩))).run P w = (loadVar t ⟨b, off, none⟩).run P w := by
  simp [Instr.loadAt, Instr.sureAddr]
 rw [this]
 cases ha : i.isAgg with
 | true =>
  rcases e2 ha with ⟨e, hle⟩ | ⟨e0, e, _⟩
  ·have := ng (w := w) hE ht hcell (by simp at hle ⊢; omega) (by simp [ha])
   rw [this, ha, e]
   rfl
  have := ng (w := w) hE ht hcell (by simp [e0]) (by simp [ha])
  rw [this, ha, e, e0]
  simp
 | false =>
  have hg := e3 ha
  have h0 := hcell 0 cv (by rw [List.getElem?_drop]; simpa using hg)
  simp at h0
  simp [loadVar, hE.jH ht, ha, h0]
end
end Go.Tp

namespace Go.Tp
section
variable {P : Program} {E : bw} {w : World} {R : Own} {N : Name -> Option Nat}
/-! #### Slice expressions -/
theorem AG {v : Option ac} {x : Option Value} {d n y : Nat} (h : lc v d = some n) (hr : ∀ a, v = some a -> ∃ u, x = some u /\ ak w R N a u []) (hn : v = none -> x = none) (hy : n <= y) (code : BoundsCode) :
  (match x with | some u => (Instr.sliceBound u y code) | none => (pure d : Sem Nat)).run P w = .ok n w := by
 cases v with
 | none => rw [hn rfl]; simp [lc] at h; subst h; rfl
 | some a =>
  obtain ⟨u, rfl, hu⟩ := hr a rfl
  unfold lc at h
  split at h
  ·simp at *
  ·rename_i k i heq
   simp at heq
   subst heq
   obtain ⟨_, rfl, _⟩ := aF hu
   split at h
   ·rename_i h0
    simp at h
    subst h
    have : i <= (y : Int) := by omega
    simp [Instr.sliceBound, asIntOf, h0, this]
   simp at h
  simp at h
theorem pS {isSlice : Bool} {len cap h l : Nat} {lo hi : Option ac} {lov hiv : Option Value} (e1 : lc hi len = some h) (e2 : lc lo 0 = some l)
  (hhi : ∀ a, hi = some a -> ∃ u, hiv = some u /\ ak w R N a u []) (hhn : hi = none -> hiv = none)
  (hlo : ∀ a, lo = some a -> ∃ u, lov = some u /\ ak w R N a u []) (hln : lo = none -> lov = none) (h1 : l <= h) (h2 : h <= cap) :
  (Instr.sliceBounds isSlice len cap lov hiv none).run P w = .ok (l, h, cap) w := by
 have b1 := fun code => AG (P := P) (y := cap) e1 hhi hhn h2 code
 have b2 := fun code => AG (P := P) (y := h) e2 hlo hln h1 code
 cases hiv <;> cases lov <;> simp_all [Instr.sliceBounds]
theorem LL {v : Value} {es : List an} {s l h : Nat} (hr : ep w R v (.slice es)) (hs : ∀ d ∈ es, d.cells.length = s) (h1 : l <= h) (h2 : h <= es.length) :
  ∃ a cap, v = .slice a es.length cap /\ es.length <= cap /\ ep w R (.slice (if cap = l then a else a.map (·.add (l * s))) (h - l) (cap - l)) (.slice ((es.take h).drop l)) := by
 have hlen : ((es.take h).drop l).length = h - l := by simp; omega
 cases hr with
 | nil a cap =>
  refine ⟨a, cap, rfl, by simp, ?_⟩
  have : h = 0 := by simpa using h2
  subst this
  have : l = 0 := by omega
  subst this
  exact .nil _ _
 | slice b off cap s' es vs hs0 hlen' hcap hb hcell hrep =>
  refine ⟨some ⟨b, off, none⟩, cap, rfl, hcap, ?_⟩
  by_cases hlh : l = h
  ·subst hlh
   have : (es.take l).drop l = [] := by simp
   rw [this, Nat.sub_self]
   exact .nil _ _
  have hne : ¬ cap = l := by omega
  rw [if_neg hne]
  have hss : s' = s := by
   cases es with
   | nil => simp at h2; omega
   | cons e es => rw [← hlen' e (by simp), hs e (by simp)]
  subst hss
  simp only [Option.map_some, add_plain]
  rw [← hlen]
  refine .slice b (off + l * s') (cap - l) s' _ (fun i j => vs (l + i) j) hs0 (fun e he => hlen' e (List.mem_of_mem_take (List.mem_of_mem_drop he))) (by omega) (by omega) (fun i j hi hj => ?_) (fun i j e c he hc => ?_)
  ·have := hcell (l + i) j (by omega) hj
   rw [show off + l * s' + i * s' + j = off + (l + i) * s' + j by rw [Nat.add_mul]; omega]
   exact this
  refine hrep (l + i) j e c ?_ hc
  rw [List.getElem?_drop, List.getElem?_take] at he
  split at he
  ·exact he
  simp at he
theorem fL {v : Option ac} {x : Option Int} {d : Nat} (h : th v = some x) : dC x d = lc v d := by
 unfold th at h
 split at h
 ·simp at h; subst h; rfl
 ·simp at h; subst h; rfl
 simp at h
theorem CK (hE : E.Ok P) {t : TypeId} {lo hi mx : Option Operand} {a : ac} {rest : List ac} {x : Value} {ρ : Operand -> Value} {out : Out}
  (h : jk E t lo hi mx (a :: rest) = some out) (ha : ak w R N a x []) (hrest : ag w R N rest ((lo.toList ++ hi.toList).map ρ) []) :
  out.eff = .keep /\ mx = none /\ ∃ cv, (Instr.sliceAt t x (lo.map ρ) (hi.map ρ) none).run P w = .ok cv w /\ ak w R N out.val cv [] := by
 have key : ∀ (L H : Option ac), di lo hi rest = (L, H) -> (∀ v, H = some v -> ∃ u, hi.map ρ = some u /\ ak w R N v u []) /\ (H = none -> hi.map ρ = none) ∧
   (∀ v, L = some v -> ∃ u, lo.map ρ = some u /\ ak w R N v u []) /\ (L = none -> lo.map ρ = none) := by
  intro L H hopt
  cases lo with
  | none =>
   cases hi with
   | none =>
    simp [di] at hopt
    obtain ⟨rfl, rfl⟩ := hopt
    simp
   | some y =>
    simp at hrest
    cases rest with
    | nil => simp [ag] at hrest
    | cons r rest =>
     obtain ⟨u, us, b1, b2, e1, e2, h1, h2⟩ := aD hrest
     simp at e1
     obtain ⟨rfl, rfl⟩ := e1
     obtain ⟨rfl, rfl⟩ := List.append_eq_nil_iff.1 e2.symm
     cases rest with
     | cons _ _ => simp [ag] at h2
     | nil =>
      simp [di] at hopt
      obtain ⟨rfl, rfl⟩ := hopt
      simpa using h1
  | some z =>
   cases hi with
   | none =>
    simp at hrest
    cases rest with
    | nil => simp [ag] at hrest
    | cons r rest =>
     obtain ⟨u, us, b1, b2, e1, e2, h1, h2⟩ := aD hrest
     simp at e1
     obtain ⟨rfl, rfl⟩ := e1
     obtain ⟨rfl, rfl⟩ := List.append_eq_nil_iff.1 e2.symm
     cases rest with
     | cons _ _ => simp [ag] at h2
     | nil =>
      simp [di] at hopt
      obtain ⟨rfl, rfl⟩ := hopt
      simpa using h1
   | some y =>
    simp at hrest
    cases rest with
    | nil => simp [ag] at hrest
    | cons r rest =>
     obtain ⟨u, us, b1, b2, e1, e2, h1, h2⟩ := aD hrest
     simp at e1
     obtain ⟨rfl, rfl⟩ := e1
     obtain ⟨rfl, rfl⟩ := List.append_eq_nil_iff.1 e2.symm
     cases rest with
     | nil => simp [ag] at h2
     | cons r2 rest =>
      obtain ⟨u2, us2, c1, c2, f1, f2, g1, g2⟩ := aD h2
      simp at f1
      obtain ⟨rfl, rfl⟩ := f1
      obtain ⟨rfl, rfl⟩ := List.append_eq_nil_iff.1 f2.symm
      cases rest with
      | cons _ _ => simp [ag] at g2
      | nil =>
       simp [di] at hopt
       obtain ⟨rfl, rfl⟩ := hopt
       simp
       exact ⟨g1, h1⟩
 obtain ⟨k1, k2, k3, k4⟩ := key (di lo hi rest).1 (di lo hi rest).2 rfl
 unfold jk at h
 split at h
 ·rename_i s rest' heq
  obtain ⟨rfl, rfl⟩ := List.cons.inj heq
  obtain ⟨_, rfl, hfl⟩ := aF ha
  split at h
  ·rename_i hd
   have hu := hE.fD hd
   cases hs : oN E.pr 0 (di lo hi rest).1 (di lo hi rest).2 (.dat (.flat (.string s))) with
   | none => simp [hs, uB] at h
   | some v =>
    simp [hs, uB] at h
    subst h
    have hs2 : ∃ hh ll, lc (di lo hi rest).2 s.size = some hh /\ lc (di lo hi rest).1 0 = some ll /\ (ll <= hh /\ hh <= s.size) /\ v = kd (.string (s.extract ll hh)) := by
     simp only [oN, hE.ln, az.ln] at hs
     split at hs
     ·rename_i l h hl hh
      rw [← fL hl, ← fL hh]
      split at hs
      ·rename_i r hr
       simp at hs
       split at hr
       ·split at hr
        ·rename_i h1 l1 e1 e2 hc
         simp at hr
         exact ⟨_, _, e1, e2, hc, by rw [← hs, ← hr]⟩
        simp at hr
       simp at hr
      simp at hs
     simp at hs
    obtain ⟨hh, ll, e1, e2, hc, rfl⟩ := hs2
    ·· 
      have hb := pS (P := P) (isSlice := false) e1 e2 k1 k2 k3 k4 hc.1 hc.2
      refine ⟨rfl, rfl, .string (s.extract ll hh), ?_, bD (by simp [bV] at hfl ⊢; omega)⟩
      simp [Instr.sliceAt, Instr.slice, aW hu, hb]
  simp at h
 ·rename_i es rest' heq
  obtain ⟨rfl, rfl⟩ := List.cons.inj heq
  obtain ⟨_, hr⟩ := dj ha
  split at h
  ·rename_i i hel
   obtain ⟨e, hu, hty⟩ := eh hE hel
   ·cases hs : oN E.pr i.size (di lo hi rest).1 (di lo hi rest).2 (.dat (.slice es)) with
    | none => simp [hs, uB] at h
    | some v =>
     simp [hs, uB] at h
     subst h
     have hs2 : ∃ hh ll, lc (di lo hi rest).2 es.length = some hh /\ lc (di lo hi rest).1 0 = some ll /\ (ll <= hh /\ hh <= es.length) /\ ((∀ d ∈ es, d.cells.length = i.size) /\ 0 < i.size) /\ v = .dat (.slice ((es.take hh).drop ll)) := by
      simp only [oN, hE.ln, az.ln] at hs
      split at hs
      ·rename_i l h hl hh
       rw [← fL hl, ← fL hh]
       split at hs
       ·rename_i r hr
        simp at hs
        split at hr
        ·rename_i hsz
         split at hr
         ·split at hr
          ·rename_i h1 l1 e1 e2 hc
           simp at hr
           exact ⟨_, _, e1, e2, hc, hsz, by rw [← hs, ← hr]⟩
          simp at hr
         simp at hr
        simp at hr
       simp at hs
      simp at hs
     obtain ⟨hh, ll, e1, e2, hc, hsz, rfl⟩ := hs2
     ·· 
       obtain ⟨ad, cap, rfl, hcap, hrep⟩ := LL hr hsz.1 hc.1 hc.2
       have hb := pS (P := P) (isSlice := true) (cap := cap) e1 e2 k1 k2 k3 k4 hc.1 (by omega)
       refine ⟨rfl, rfl, _, ?_, bS (d := .slice _) hrep⟩
       simp [Instr.sliceAt, Instr.slice, aW hu, hb, hE.eN hty]
  simp at h
 ·rename_i n s off len rest' heq
  obtain ⟨rfl, rfl⟩ := List.cons.inj heq
  simp only [ak] at ha
  obtain ⟨_, bl, cap, hN, rfl, hcap, hs0, hlt, hsz⟩ := ha
  split at h
  ·rename_i i hel
   obtain ⟨e, hu, hty⟩ := eh hE hel
   split at h
   ·rename_i l0 h0 hl0 hh0
    split at h
    ·rename_i h1 l1 e2 e1
     rw [fL hl0] at e1
     rw [fL hh0] at e2
     split at h
     ·rename_i hc
      simp only [Bool.and_eq_true, Nat.ble_eq, Nat.beq_eq] at hc
      obtain ⟨⟨hc1, hc2⟩, rfl⟩ := hc
      have hb := pS (P := P) (w := w) (isSlice := true) (cap := cap) e2 e1 k1 k2 k3 k4 hc1 (by omega)
      split at h
      ·simp at h
       subst h
       refine ⟨rfl, rfl, .slice (some ⟨bl, off, none⟩) h1 cap, ?_, ?_⟩
       ·simp [Instr.sliceAt, Instr.slice, aW hu, hb, hE.eN hty, Addr.add]
       simp only [ak]
       exact ⟨trivial, bl, cap, hN, rfl, by omega, hs0, hlt, hsz⟩
      rename_i l2
      split at h
      ·rename_i hlt2
       rw [Nat.blt_eq] at hlt2
       simp at h
       subst h
       have hne : ¬ cap = l2 + 1 := by omega
       refine ⟨rfl, rfl, .slice (some ⟨bl, off + (l2 + 1) * i.size, none⟩) (h1 - (l2 + 1)) (cap - (l2 + 1)), ?_, ?_⟩
       ·simp [Instr.sliceAt, Instr.slice, aW hu, hb, hE.eN hty, hne, add_plain]
       simp only [ak]
       refine ⟨trivial, bl, cap - (l2 + 1), hN, rfl, by omega, ⟨hs0.1, Nat.le_trans (Nat.sub_le _ _) hs0.2⟩, hlt, ?_⟩
       rw [← hsz, Nat.sub_mul, Nat.add_assoc]
       congr 1
       have : (l2 + 1) * i.size <= cap * i.size := Nat.mul_le_mul_right _ (by omega)
       omega
      rename_i hlt2
      have hlt2 : ¬ l2 + 1 < h1 := fun h' => hlt2 (by rw [Nat.blt_eq]; exact h')
      simp at h
      subst h
      have he : h1 = l2 + 1 := by omega
      subst he
      refine ⟨rfl, rfl, .slice (if cap = l2 + 1 then some ⟨bl, off, none⟩ else (some (⟨bl, off, none⟩ : Addr)).map (·.add ((l2 + 1) * i.size))) 0 (cap - (l2 + 1)), ?_, bS (d := .slice _) (.nil _ _)⟩
      simp [Instr.sliceAt, Instr.slice, aW hu, hb, hE.eN hty]
     simp at h
    simp at h
   simp at h
  simp at h
 simp at h
/-! #### Struct literals -/
theorem iU {α : Type} : ∀ (off : Nat) (ns l : List α) (k : Nat), (da off ns l)[k]? = if off <= k /\ k < off + ns.length /\ k < l.length then ns[k - off]? else l[k]?
 | off, [], l, k => by
  have : ¬ (off <= k /\ k < off + ([] : List α).length /\ k < l.length) := by simp; omega
  rw [if_neg this]; cases off <;> cases l <;> rfl
 | off, n :: ns, [], k => by cases off <;> simp [da]
 | 0, n :: ns, a :: l, 0 => by simp [da]
 | 0, n :: ns, a :: l, k + 1 => by
  have := iU 0 ns l k
  simp only [da, List.getElem?_cons_succ, this]
  simp
 | off + 1, n :: ns, a :: l, 0 => by simp [da]
 | off + 1, n :: ns, a :: l, k + 1 => by
  have := iU off (n :: ns) l k
  simp only [da, List.getElem?_cons_succ, this]
  have e : k + 1 - (off + 1) = k - off := by omega
  rw [e]
  by_cases h : off <= k /\ k < off + (n :: ns).length /\ k < l.length
  ·rw [if_pos h, if_pos (by simp at h ⊢; omega)]
  rw [if_neg h, if_neg (by simp at h ⊢; omega)]
theorem JR (off : Nat) (v : Array Value) (cells : Array Value) :
  ((v.zipIdx.foldl (fun cs (x : Value × Nat) => cs.setIfInBounds (off + x.2) x.1) cells)) = (da off v.toList cells.toList).toArray := by
 rw [← Array.foldl_toList, Array.toList_zipIdx]
 obtain ⟨h1, h2⟩ := Great.foldl_set off v.toList 0 cells
 apply Array.ext_getElem?
 intro k
 rw [h2 k]
 simp only [List.getElem?_toArray, iU, Nat.add_zero, Array.length_toList, Array.getElem?_toList]
theorem wW : ∀ {ns as : List ac} {us vs : List Value} {bs : List Nat}, ag w R N as vs bs -> ns.length <= as.length -> us.length = ns.length ->
  ∃ mid post, bs = mid ++ post /\ ∀ (b : List Nat) (w' : World) (R' : Own), bz w R w' R' post -> ag w' R' N ns us b -> ag w' R' N (da 0 ns as) (da 0 us vs) (b ++ post)
 | [], as, us, vs, bs, h, _, hu => by
  obtain rfl : us = [] := List.eq_nil_of_length_eq_zero (by simpa using hu)
  refine ⟨[], bs, by simp, fun b w' R' k hr => ?_⟩
  obtain ⟨_, rfl⟩ := ba hr
  have e1 : da 0 ([] : List ac) as = as := by cases as <;> rfl
  have e2 : da 0 ([] : List Value) vs = vs := by cases vs <;> rfl
  rw [e1, e2]
  simpa using h.keep k
 | n :: ns, [], us, vs, bs, h, hl, hu => by simp at hl
 | n :: ns, a :: as, us, vs, bs, h, hl, hu => by
  obtain ⟨v, vs', c1, c2, rfl, rfl, h1, h2⟩ := aD h
  cases us with
  | nil => simp at hu
  | cons u us =>
   obtain ⟨mid, post, e, hk⟩ := wW (ns := ns) (us := us) h2 (by simpa using hl) (by simpa using hu)
   refine ⟨c1 ++ mid, post, by simp [e], fun b w' R' k hr => ?_⟩
   obtain ⟨u3, us3, f1, f2, e1, rfl, k1, k2⟩ := aD hr
   obtain ⟨rfl, rfl⟩ := List.cons.inj e1
   simpa [da] using aH k1 (hk f2 w' R' k k2)
/-- New cells in the place of some: what is owned. -/
theorem pV : ∀ (off : Nat) {ns as : List ac} {us vs : List Value} {bs : List Nat}, ag w R N as vs bs -> off + ns.length <= as.length -> us.length = ns.length ->
  ∃ pre mid post, bs = pre ++ mid ++ post /\ ∀ (b2 : List Nat) (w' : World) (R' : Own), bz w R w' R' (pre ++ post) -> ag w' R' N ns us b2 -> ag w' R' N (da off ns as) (da off us vs) (pre ++ b2 ++ post)
 | 0, ns, as, us, vs, bs, h, hl, hu => by
  obtain ⟨mid, post, e, hk⟩ := wW h (by omega) hu
  exact ⟨[], mid, post, by simpa using e, fun b2 w' R' k hr => by simpa using hk b2 w' R' (by simpa using k) hr⟩
 | off + 1, [], as, us, vs, bs, h, hl, hu => by
  obtain rfl : us = [] := List.eq_nil_of_length_eq_zero (by simpa using hu)
  refine ⟨bs, [], [], by simp, fun b2 w' R' k hr => ?_⟩
  obtain ⟨_, rfl⟩ := ba hr
  have e1 : da (off + 1) ([] : List ac) as = as := by cases as <;> rfl
  have e2 : da (off + 1) ([] : List Value) vs = vs := by cases vs <;> rfl
  rw [e1, e2]
  simpa using h.keep (k.sub (by simp))
 | off + 1, n :: ns, [], us, vs, bs, h, hl, hu => by simp at hl
 | off + 1, n :: ns, a :: as, us, vs, bs, h, hl, hu => by
  obtain ⟨v, vs', c1, c2, rfl, rfl, h1, h2⟩ := aD h
  cases us with
  | nil => simp at hu
  | cons u us =>
   obtain ⟨pre, mid, post, e, hk⟩ := pV off (ns := n :: ns) (us := u :: us) h2 (by simp at hl ⊢; omega) hu
   refine ⟨c1 ++ pre, mid, post, by simp [e], fun b2 w' R' k hr => ?_⟩
   have := hk b2 w' R' (k.sub (by intro b hb; simp at hb ⊢; rcases hb with h | h <;> simp [h])) hr
   simpa [da] using aH (h1.keep (k.sub (by intro b hb; simp [hb]))) this
theorem bg (bs : List Nat) : bz w R w R bs := ⟨Step.refl w R, fun _ _ _ => ⟨rfl, fun _ h => h⟩⟩
theorem C0 {off : Nat} {ns as : List ac} {us vs : List Value} (h : ag w R N as vs []) (hn : ag w R N ns us []) (hl : off + ns.length <= as.length) :
  ag w R N (da off ns as) (da off us vs) [] := by
 obtain ⟨pre, mid, post, e, hk⟩ := pV off h hl hn.length
 have hpm := List.append_eq_nil_iff.1 e.symm
 obtain ⟨hpm, rfl⟩ := hpm
 obtain ⟨rfl, rfl⟩ := List.append_eq_nil_iff.1 hpm
 simpa using hk [] w R (bg _) hn
theorem tw {place : Nat -> Option (Nat × Nat)} {cplace : Nat -> Option (Nat × Nat)} (hp : ∀ k x, place k = some x -> cplace k = some x) :
  ∀ (ps : List (Nat × ac)) (cps : List (Nat × Value)) (cells : List ac) (vs : Array Value) (r : List ac), ps.map (·.1) = cps.map (·.1) ->
   ag w R N (ps.map (·.2)) (cps.map (·.2)) [] -> ag w R N cells vs.toList [] -> Ar place ps cells = some r ->
   ∃ us : Array Value, Instr.fill cplace vs cps = some us /\ ag w R N r us.toList []
 | [], cps, cells, vs, r, hm, _, hc, h => by
  have : cps = [] := by simpa using hm.symm
  subst this
  simp [Ar] at h
  subst h
  exact ⟨vs, rfl, hc⟩
 |(i, a) :: ps, cps, cells, vs, r, hm, hr, hc, h => by
  cases cps with
  | nil => simp at hm
  | cons q cps =>
   obtain ⟨j, v⟩ := q
   simp at hm
   obtain ⟨rfl, hm⟩ := hm
   simp only [List.map_cons] at hr
   obtain ⟨u, us, b1, b2, e1, e2, h1, h2⟩ := aD hr
   obtain ⟨rfl, rfl⟩ := List.cons.inj e1
   obtain ⟨rfl, rfl⟩ := List.append_eq_nil_iff.1 e2.symm
   simp only [Ar] at h
   split at h
   ·simp at h
   rename_i off size hpl
   split at h
   ·rename_i hcond
    have hcells := gu (oJ h1) hcond.2.2
    have hlen := hcells.length
    have hvl := hc.length
    have hput := C0 (off := off) hc hcells (by omega)
    have e : (da off v.cells.toList vs.toList).toArray = v.cells.zipIdx.foldl (fun cs (x : Value × Nat) => cs.setIfInBounds (off + x.2) x.1) vs := (JR off v.cells vs).symm
    obtain ⟨us', f1, f2⟩ := tw hp ps cps _ (da off v.cells.toList vs.toList).toArray r hm h2 (by simpa using hput) h
    refine ⟨us', ?_, f2⟩
    unfold Instr.fill
    simp only [hp _ _ hpl]
    rw [if_neg (by simp at hlen hvl ⊢; omega)]
    rw [← e]
    exact f1
   simp at h
end
end Go.Tp

namespace Go.Tp
section
variable {P : Program} {E : bw} {w : World} {R : Own} {N : Name -> Option Nat}
theorem DH {α β : Type} (f : α -> Option β) : ∀ {l : List α} {r : List β}, l.mapM f = some r -> ∀ k : Nat, r[k]? = (l[k]?).bind f
 | [], r, h, k => by simp at h; subst h; simp
 | a :: l, r, h, k => by
  simp only [List.mapM_cons, Option.bind_eq_bind, Option.pure_def] at h
  cases ha : f a with
  | none => simp [ha] at h
  | some b =>
   cases hl : l.mapM f with
   | none => simp [ha, hl] at h
   | some rs =>
    simp [ha, hl] at h
    subst h
    cases k with
    | zero => simp [ha]
    | succ k => simpa using DH f hl k
theorem CN (hE : E.Ok P) {t : TypeId} {ps : Array (Nat × Operand)} {ρ : Operand -> Value} {vals : List ac} {out : Out} (h : G7 E t ps.toList vals = some out)
  (hr : ag w R N vals ((ps.toList.map (·.2)).map ρ) []) :
  out.eff = .keep /\ ∃ cv, (Instr.build t (ps.map fun (i, x) => (i, ρ x))).run P w = .ok cv w /\ ak w R N out.val cv [] := by
 unfold G7 at h
 split at h
 ·rename_i i hi
  split at h
  ·rename_i fs hd
   split at h
   ·rename_i hok
    split at h
    ·rename_i cs hf
     simp at h
     subst h
     obtain ⟨⟨it, h1, h2, h3, h4, _⟩, hk⟩ := hE.ty t i hi
     rw [hd] at hk
     obtain ⟨fields, hu, hm, places, hpl⟩ := hk
     have hz := gu (fw (w := w) (R := R) (N := N) i.zero) hok.1
     have hlen := hr.length
     simp at hlen
     have hfst : (parts ps.toList vals).map (·.1) = ((ps.map fun (i, x) => (i, ρ x)).toList).map (·.1) := by
      unfold parts
      rw [List.map_fst_zip (by simp; omega)]
      simp
     have hsnd : (parts ps.toList vals).map (·.2) = vals := by
      unfold parts
      rw [List.map_snd_zip (by simp; omega)]
     obtain ⟨us, f1, f2⟩ := tw (cplace := (places.toArray[·]?)) (fun k x hx => by
      unfold placeOf at hx
      split at hx
      ·rename_i off j hfo
       simp at hx
       subst hx
       obtain ⟨fields', fld, g1, g2, g3, g4⟩ := mu hE hfo
       rw [hu] at g1
       simp at g1
       subst g1
       obtain ⟨⟨jt, k1, k2, _⟩, _⟩ := hE.ty _ _ g4
       have := DH _ hpl k
       have g2' : fields.toList[k]? = some fld := by simpa using g2
       rw [g2'] at this
       simp [k1, k2, g3] at this
       simpa using this
      simp at hx) _ ((ps.map fun (i, x) => (i, ρ x)).toList) _ i.zero.cells cs hfst (by
      rw [hsnd]
      have : (List.map (fun x => x.2) (ps.map fun (i, x) => (i, ρ x)).toList) = (ps.toList.map (·.2)).map ρ := by simp
      rw [this]; exact hr) hz hf
     refine ⟨rfl, .agg us, run_build w t _ us ?_, ?_⟩
     ·unfold Program.built
      simp only [h1, hu, h4, hpl]
      exact f1
     have := jK f2
     simpa using this
    simp at h
   simp at h
  ·rename_i ne e hd
   split at h
   ·rename_i ie hie
    split at h
    ·rename_i hok
     split at h
     ·rename_i cs hf
      simp at h
      subst h
      obtain ⟨⟨it, h1, h2, h3, h4, _⟩, hk⟩ := hE.ty t i hi
      rw [hd] at hk
      obtain ⟨⟨je, k1, k2, _⟩, _⟩ := hE.ty e ie hie
      have hz := gu (fw (w := w) (R := R) (N := N) i.zero) hok.1
      have hlen := hr.length
      simp at hlen
      have hfst : (parts ps.toList vals).map (·.1) = ((ps.map fun (i, x) => (i, ρ x)).toList).map (·.1) := by
       unfold parts
       rw [List.map_fst_zip (by simp; omega)]
       simp
      have hsnd : (parts ps.toList vals).map (·.2) = vals := by
       unfold parts
       rw [List.map_snd_zip (by simp; omega)]
      obtain ⟨us, f1, f2⟩ := tw (cplace := fun i => some (i * je.size, je.size)) (fun k x hx => by rw [k2]; exact hx) _ ((ps.map fun (i, x) => (i, ρ x)).toList) _ i.zero.cells cs hfst (by
        rw [hsnd]
        have : (List.map (fun x => x.2) (ps.map fun (i, x) => (i, ρ x)).toList) = (ps.toList.map (·.2)).map ρ := by simp
        rw [this]; exact hr) hz hf
      refine ⟨rfl, .agg us, run_build w t _ us ?_, ?_⟩
      ·unfold Program.built
       simp only [h1, hk, h4, k1]
       exact f1
      have := jK f2
      simpa using this
     simp at h
    simp at h
   simp at h
  simp at h
 simp at h
/-- The bound on a slice's length. -/
theorem Fj {v : Value} {es : List an} (h : ep w R v (.slice es)) : es.length <= jv := by
 cases h with
 | nil => simp
 | slice => assumption
theorem qj {n : Nat} (h : n <= jv) : bV (.int .i64 n) = true := iz.2 (by simp [IntKind.min, IntKind.max, IntKind.bits, IntKind.signed]; unfold jv at h; omega)
theorem wB (hE : E.Ok P) {t ty : TypeId} {ats : Array TypeId} (hat : ats[0]? = some t) {a : ac} {x : Value} {out : Out} (h : oE E t [a] none = some out) (ha : ak w R N a x []) :
  out.eff = .keep /\ ∃ cv, (Builtin.len_ ats ty #[x]).run P w = .ok cv w /\ ak w R N out.val cv [] := by
 unfold oE at h
 split at h
 ·rename_i es heq
  simp at heq
  subst heq
  obtain ⟨_, hr⟩ := dj ha
  split at h
  ·rename_i e hd
   simp [hE.ln, az.ln] at h
   subst h
   have hu := hE.iB hd
   refine ⟨rfl, .int .i64 es.length, ?_, bD (qj (Fj hr))⟩
   cases hr with
   | nil => simp [Builtin.len_, hat, aW hu, goInt]
   | slice => simp [Builtin.len_, hat, aW hu, goInt]
  simp at h
 ·rename_i s heq
  simp at heq
  subst heq
  obtain ⟨_, rfl, hfl⟩ := aF ha
  split at h
  ·rename_i hd
   simp [hE.ln, az.ln] at h
   subst h
   exact ⟨rfl, .int .i64 s.size, by simp [Builtin.len_, hat, aW (hE.fD hd), goInt], bD (iz.2 (by simp [bV] at hfl; simp [IntKind.min, IntKind.max, IntKind.bits, IntKind.signed]; omega))⟩
  simp at h
 ·rename_i n s off len heq
  simp at heq
  subst heq
  simp only [ak] at ha
  obtain ⟨_, bl, cap, hN, rfl, hcap, hs0, hlt, hsz⟩ := ha
  split at h
  ·rename_i e hd
   split at h
   ·rename_i hl
    simp at h
    subst h
    have hl : len <= jv := by rwa [Nat.ble_eq] at hl
    exact ⟨rfl, .int .i64 len, by simp [Builtin.len_, hat, aW (hE.iB hd), goInt], bD (qj hl)⟩
   simp at h
  simp at h
 ·rename_i heq
  simp at heq
  subst heq
  obtain ⟨_, rfl, _⟩ := aF ha
  split at h
  ·rename_i k e hd
   simp at h
   subst h
   exact ⟨rfl, .int .i64 0, by simp [Builtin.len_, hat, aW (hE.lG hd), goInt], bD rfl⟩
  simp at h
 ·split at h <;> simp_all
 simp at h
theorem pA : ∀ {es : List (Value × an)} {ents : List MapEntry}, dg w R es ents -> ents.length = es.length
 | [], _, h => by simp [dg] at h; simp [h]
 |(_, _) :: es, _, ⟨e, es', h1, _, _, h4⟩ => by simp [h1, pA h4]
theorem zd (hE : E.Ok P) {t ty : TypeId} {ats : Array TypeId} (hat : ats[0]? = some t) {n : Name} {es : List (Value × an)} {out : Out} (h : oE E t [.map n] (some (.map es)) = some out)
  {b clock : Nat} {ents : Array MapEntry} (hb : w.heap[b]? = some (.map ents clock)) (hr : dg w R es ents.toList) :
  out.eff = .keep /\ ∃ cv, (Builtin.len_ ats ty #[.map (some b)]).run P w = .ok cv w /\ ak w R N out.val cv [] := by
 simp only [oE] at h
 split at h
 ·rename_i k e es' hd heq
  simp at heq
  subst heq
  split at h
  ·rename_i hlim
   simp at h
   subst h
   have := pA hr
   refine ⟨rfl, .int .i64 es.length, ?_, bD (qj hlim)⟩
   simp at this
   simp [Builtin.len_, hat, aW (hE.lG hd), goInt, getObj, Sem.run, hb, this]
  simp at h
 simp at h
theorem Ga (hE : E.Ok P) {kt : TypeId} {td : TypeDesc} (h : E.key kt = some td) : P.underlying kt = some td /\ (td = .string ∨ (∃ k, td = .int k) ∨ td = .bool) := by
 unfold bw.key at h
 split at h
 ·rename_i i hi
  have hk := (hE.ty kt i hi).2
  cases hd : i.desc <;> rw [hd] at h hk <;> simp [Io] at h <;> subst h <;> simp_all
 simp at h
theorem fy (td : TypeDesc) (k : Value) : ∀ {es : List (Value × an)} {ents : List MapEntry} {i : Nat} {r : Option (Nat × an)}, dg w R es ents -> findKey td k es i = some r ->
  (match r with
   | some (j, d) => ∃ e, ents[j - i]? = some e /\ i <= j /\ Instr.findNow td k ents i = some (some (j, e.val)) /\ ss w R e.val d /\ Instr.sameNow td k e.key = some true /\ es[j - i]? = some (e.key, d)
   | none => Instr.findNow td k ents i = some none)
 | [], ents, i, r, h, hf => by
  simp [dg] at h
  subst h
  simp [findKey] at hf
  subst hf
  rfl
 |(x, d) :: es, ents, i, r, ⟨e, es', h1, h2, h3, h4⟩, hf => by
  subst h1
  subst h2
  simp only [findKey] at hf
  split at hf
  ·rename_i hs
   simp at hf
   subst hf
   exact ⟨e, by simp, Nat.le_refl _, by simp [Instr.findNow, hs], h3, hs, by simp⟩
  ·rename_i hs
   have ih := fy td k h4 hf
   cases r with
   | none => simpa [Instr.findNow, hs] using ih
   | some q =>
    obtain ⟨j, d'⟩ := q
    obtain ⟨e', f1, f2, f3, f4, f5, f6⟩ := ih
    refine ⟨e', ?_, by omega, by simpa [Instr.findNow, hs] using f3, f4, f5, ?_⟩
    ·rw [show j - i = (j - (i + 1)) + 1 by omega]; simpa using f1
    rw [show j - i = (j - (i + 1)) + 1 by omega]; simpa using f6
  simp at hf
theorem zh (n : Nat) {kt : TypeId} {td : TypeDesc} (hu : P.underlying kt = some td) (hk : td = .string ∨ (∃ k, td = .int k) ∨ td = .bool) (b : Bool) (x : Value) :
  (Instr.checkKey b (n + 1) kt x).run P w = .ok () w := by
 rcases hk with rfl | ⟨k, rfl⟩ | rfl <;> cases x <;> simp [Instr.checkKey, aW hu]
theorem run_checkKey {kt : TypeId} {td : TypeDesc} (hu : P.underlying kt = some td) (hk : td = .string ∨ (∃ k, td = .int k) ∨ td = .bool) (b : Bool) (x : Value) :
  (Instr.checkKey b 10000 kt x).run P w = .ok () w := zh 9999 hu hk b x
theorem oW (hE : E.Ok P) {td : TypeDesc} {k : Value} {es : List (Value × an)} {r : Option (Nat × an)} (h : E.pr.key td k es = some r) : findKey td k es 0 = some r := by
 rw [hE.ln] at h; exact h
theorem run_findKey {kt : TypeId} {td : TypeDesc} (hu : P.underlying kt = some td) {k : Value} {ents : List MapEntry} {r : Option (Nat × Value)} (h : Instr.findNow td k ents 0 = some r) :
  (Instr.findKey kt k ents).run P w = .ok r w := by
 simp [Instr.findKey, aW hu, h]
theorem wS (hE : E.Ok P) {t kt et : TypeId} {td : TypeDesc} {ei : TI} (hmu : P.underlying t = some (.map kt et)) (hei : E.ty et = some ei) (hku : P.underlying kt = some td) (hkk : td = .string ∨ (∃ k, td = .int k) ∨ td = .bool)
  {mx k : Value} {ents : Array MapEntry} (hm : (mx = .map none /\ ents = #[]) ∨ ∃ b clock, mx = .map (some b) /\ w.heap[b]? = some (.map ents clock)) {r : Option (Nat × Value)} (hf : Instr.findNow td k ents.toList 0 = some r) (ok : Bool) :
  (Instr.lookup t mx k ok).run P w = .ok (match r with | some (_, v) => (if ok then .tuple #[v, .bool true] else v) | none => (if ok then .tuple #[ei.zero, .bool false] else ei.zero)) w := by
 have hfk := run_findKey (w := w) hku hf
 rcases hm with ⟨rfl, rfl⟩ | ⟨b, clock, rfl, hb⟩
 ·cases r with
  | none => simp at hfk; simp [Instr.lookup, aW hmu, run_checkKey hku hkk, hfk, hE.wQ hei]
  | some q => simp at hfk; simp [Instr.lookup, aW hmu, run_checkKey hku hkk, hfk]
 cases r with
 | none => simp [Instr.lookup, aW hmu, run_checkKey hku hkk, hfk, hE.wQ hei, getObj, Sem.run, hb]
 | some q => simp [Instr.lookup, aW hmu, run_checkKey hku hkk, hfk, getObj, Sem.run, hb]
theorem AX (hE : E.Ok P) {t : TypeId} {ok : Bool} {m : ac} {kv : ac} {ob : Option aN} {out : Out} (h : fN E t ok [m, kv] ob = some out) {mx kx : Value}
  (hkr : ak w R N kv kx []) (hm : ak w R N m mx [])
  (hob : ∀ n es, m = .map n -> ob = some (.map es) -> ∃ b ents clock, mx = .map (some b) /\ w.heap[b]? = some (.map ents clock) /\ dg w R es ents.toList) :
  out.eff = .keep /\ ∃ cv, (Instr.lookup t mx kx ok).run P w = .ok cv w /\ ak w R N out.val cv [] := by
 unfold fN at h
 split at h
 ·rename_i m' k heq
  simp at heq
  obtain ⟨rfl, rfl⟩ := heq
  obtain ⟨_, rfl, hkf⟩ := aF hkr
  split at h
  ·rename_i kt et hd
   split at h
   ·rename_i td ei es hkd hei hes
    obtain ⟨hku, hkk⟩ := Ga hE hkd
    have hmu := hE.lG hd
    have hents : ∃ ents : Array MapEntry, ((mx = .map none /\ ents = #[]) ∨ ∃ b clock, mx = .map (some b) /\ w.heap[b]? = some (.map ents clock)) /\ dg w R es ents.toList := by
     unfold mapEntries at hes
     split at hes
     ·simp at hes
      subst hes
      obtain ⟨_, rfl, _⟩ := aF hm
      exact ⟨#[], .inl ⟨rfl, rfl⟩, rfl⟩
     ·rename_i n
      split at hes
      ·rename_i es'
       simp at hes
       subst hes
       obtain ⟨b, ents, clock, rfl, hb, hr⟩ := hob n es' rfl rfl
       exact ⟨ents, .inr ⟨b, clock, rfl, hb⟩, hr⟩
      simp at hes
     simp at hes
    obtain ⟨ents, he, hrm⟩ := hents
    split at h
    ·rename_i j d hf
     simp at h
     subst h
     obtain ⟨e, _, _, f3, f4, _, _⟩ := fy td _ hrm (oW hE hf)
     refine ⟨rfl, _, wS hE hmu hei hku hkk he f3 ok, ?_⟩
     cases ok
     ·simpa [found] using bS (N := N) f4
     simp only [found, if_true, ak]
     exact ⟨[e.val, .bool true], rfl, aH (b1 := []) (bS f4) (aH (b1 := []) (b2 := []) (bD rfl) aT)⟩
    ·rename_i hf
     split at h
     ·rename_i z hz
      simp at h
      subst h
      have f3 := fy td _ hrm (oW hE hf)
      have hzr := tL (fw (w := w) (R := R) (N := N) ei.zero) hz
      refine ⟨rfl, _, wS hE hmu hei hku hkk he f3 ok, ?_⟩
      cases ok
      ·simpa [found] using bS (N := N) hzr
      simp only [found, if_true, ak]
      exact ⟨[ei.zero, .bool false], rfl, aH (b1 := []) (bS hzr) (aH (b1 := []) (b2 := []) (bD rfl) aT)⟩
     simp at h
    simp at h
   simp at h
  simp at h
 simp at h
end
end Go.Tp

namespace Go.Tp
section
variable {P : Program} {E : bw} {w : World} {R : Own} {N : Name -> Option Nat}
/-! #### Rows of cells -/
theorem jo : ∀ {vs us : List Value} {cs ds : List an}, cR w R vs cs -> cR w R us ds -> cR w R (vs ++ us) (cs ++ ds)
 | [], _, [], _, _, h => h
 | _ :: _, _, _ :: _, _, h, k => ⟨h.1, jo h.2 k⟩
 | [], _, _ :: _, _, h, _ => h.elim
 | _ :: _, _, [], _, h, _ => h.elim
theorem zO : ∀ {vs : List Value} {cs : List an} {j : Nat} {c : an}, cR w R vs cs -> cs[j]? = some c -> ∃ v, vs[j]? = some v /\ ep w R v c
 | [], [], _, _, _, h => by simp at h
 | v :: _, c :: _, 0, _, h, hj => by simp at hj; subst hj; exact ⟨v, by simp, h.1⟩
 | _ :: _, _ :: _, j + 1, _, h, hj => by simp at hj; simpa using zO h.2 hj
 | [], _ :: _, _, _, h, _ => h.elim
 | _ :: _, [], _, _, h, _ => h.elim
theorem ql {α : Type} {s : Nat} (hs : 0 < s) (f : Nat -> List α) (hf : ∀ i, (f i).length = s) : ∀ (n i0 k : Nat),
  ((List.range' i0 n).flatMap f)[k]? = if k < n * s then (f (i0 + k / s))[k % s]? else none
 | 0, i0, k => by simp
 | n + 1, i0, k => by
  simp only [List.range'_succ, List.flatMap_cons]
  by_cases hk : k < s
  ·rw [List.getElem?_append_left (by rw [hf]; exact hk), Nat.div_eq_of_lt hk, Nat.mod_eq_of_lt hk, if_pos (by rw [Nat.add_mul, Nat.one_mul]; omega), Nat.add_zero]
  have ih := ql hs f hf n (i0 + 1) (k - s)
  rw [List.getElem?_append_right (by rw [hf]; omega), hf, ih]
  have hd : k / s = (k - s) / s + 1 := by rw [← Nat.add_div_right _ hs, Nat.sub_add_cancel (by omega)]
  have hm : k % s = (k - s) % s := by rw [← Nat.add_mod_right (k - s) s, Nat.sub_add_cancel (by omega)]
  rw [hd, hm, show i0 + 1 + (k - s) / s = i0 + ((k - s) / s + 1) by omega]
  by_cases h2 : k - s < n * s
  ·rw [if_pos h2, if_pos (by rw [Nat.add_mul, Nat.one_mul]; omega)]
  rw [if_neg h2, if_neg (by rw [Nat.add_mul, Nat.one_mul]; omega)]
theorem dm {s : Nat} : ∀ {es : List an}, (∀ d ∈ es, d.cells.length = s) -> (es.flatMap an.cells).length = es.length * s
 | [], _ => by simp
 | e :: es, h => by
  have := dm (es := es) (fun d hd => h d (List.mem_cons_of_mem _ hd))
  simp only [List.flatMap_cons, List.length_append, this, h e List.mem_cons_self, List.length_cons, Nat.add_mul, Nat.one_mul]
  omega
theorem flat_get {s : Nat} (hs : 0 < s) : ∀ {es : List an}, (∀ d ∈ es, d.cells.length = s) -> ∀ i j e, es[i]? = some e -> j < s -> (es.flatMap an.cells)[i * s + j]? = e.cells[j]?
 | [], _, i, j, e, h, _ => by simp at h
 | d :: es, h, 0, j, e, he, hj => by
  simp at he
  subst he
  simp only [List.flatMap_cons, Nat.zero_mul, Nat.zero_add]
  rw [List.getElem?_append_left (by rw [h d List.mem_cons_self]; exact hj)]
 | d :: es, h, i + 1, j, e, he, hj => by
  simp at he
  have := flat_get hs (es := es) (fun d hd => h d (List.mem_cons_of_mem _ hd)) i j e he hj
  simp only [List.flatMap_cons]
  rw [List.getElem?_append_right (by rw [h d List.mem_cons_self, Nat.add_mul]; omega), h d List.mem_cons_self, ← this]
  congr 1
  rw [Nat.add_mul]
  omega
/-- The cells of a slice that reads as data, one behind the other. -/
theorem oR {v : Value} {es : List an} (h : ep w R v (.slice es)) (hne : es ≠ []) {s : Nat} (hs : ∀ d ∈ es, d.cells.length = s) :
  ∃ b off cap cells, v = .slice (some ⟨b, off, none⟩) es.length cap /\ es.length <= cap /\ cR w R cells (es.flatMap an.cells) /\ ∀ (j : Nat) u, cells[j]? = some u -> w.cell? ⟨b, off + j, none⟩ = some u /\ ¬ R b (off + j) := by
 cases h with
 | nil => exact absurd rfl hne
 | slice b off cap s' es vs hs0 hlen hcap hb hcell hrep =>
  obtain rfl : s' = s := by
   cases es with
   | nil => exact absurd rfl hne
   | cons e es => rw [← hlen e (by simp), hs e (by simp)]
  have hfl : ∀ i, ((List.range s').map (vs i)).length = s' := by simp
  refine ⟨b, off, cap, (List.range' 0 es.length).flatMap (fun i => (List.range s').map (vs i)), rfl, hcap, ?_, ?_⟩
  ·apply lV
   ·rw [dm hlen]
    clear hcell hrep hb hcap hs hne
    induction es.length with
    | zero => simp
    | succ n ih => rw [List.range'_concat, List.flatMap_append, List.length_append, ih]; simp [Nat.add_mul]
   intro k v c hv hc
   rw [ql hs0 _ hfl] at hv
   split at hv
   ·rename_i hk
    have hi : k / s' < es.length := (Nat.div_lt_iff_lt_mul hs0).2 hk
    have hj : k % s' < s' := Nat.mod_lt _ hs0
    simp [hj] at hv
    subst hv
    have he : es[k / s']? = some es[k / s'] := by simp [hi]
    have := flat_get hs0 hlen (k / s') (k % s') _ he hj
    rw [Nat.div_add_mod' k s'] at this
    rw [this] at hc
    exact hrep _ _ _ _ he hc
   simp at hv
  intro k u hu
  rw [ql hs0 _ hfl] at hu
  split at hu
  ·rename_i hk
   have hi : k / s' < es.length := (Nat.div_lt_iff_lt_mul hs0).2 hk
   have hj : k % s' < s' := Nat.mod_lt _ hs0
   simp [hj] at hu
   subst hu
   have := hcell (k / s') (k % s') hi hj
   rw [Nat.add_assoc, Nat.div_add_mod' k s'] at this
   exact this
  simp at hu
/-- A row whose first cells read as the elements' cells. -/
theorem LM {b cap s : Nat} {arr : Array Value} {t : TypeId} {fz : Nat × Nat} (hb : w.heap[b]? = some (.cells arr t fz)) {es : List an} (hs0 : 0 < s) (hs : ∀ d ∈ es, d.cells.length = s)
  {cells : List Value} (hr : cR w R cells (es.flatMap an.cells)) (hpre : ∀ (j : Nat) u, cells[j]? = some u -> arr[j]? = some u) (hR : ∀ j, j < es.length * s -> ¬ R b j) (hcap : es.length <= cap) (hlim : es.length <= jv) :
  ep w R (.slice (some ⟨b, 0, none⟩) es.length cap) (.slice es) := by
 have hl := cA hr
 rw [dm hs] at hl
 refine .slice b 0 cap s es (fun i j => (cells[i * s + j]?).getD undef) hs0 hs hcap hlim (fun i j hi hj => ?_) (fun i j e c he hc => ?_)
 ·have hlt : i * s + j < es.length * s := by
   have : (i + 1) * s <= es.length * s := Nat.mul_le_mul_right _ hi
   rw [Nat.add_mul, Nat.one_mul] at this
   omega
  rw [Nat.zero_add]
  refine ⟨?_, hR _ hlt⟩
  rw [cell_of_row w b (i * s + j) arr t fz hb]
  have : (i * s + j) < cells.length := by omega
  have hg : cells[i * s + j]? = some cells[i * s + j] := by simp [this]
  rw [hpre _ _ hg, hg]
  rfl
 have hj : j < s := by
  rw [← hs e (List.mem_of_getElem? he)]
  rcases Nat.lt_or_ge j e.cells.length with h' | h'
  ·exact h'
  rw [List.getElem?_eq_none h'] at hc; simp at hc
 have := flat_get hs0 hs i j e he hj
 rw [hc] at this
 obtain ⟨v, hv, hrv⟩ := zO hr this
 simpa [hv] using hrv
/-! #### New blocks -/
theorem wy (o : Obj) {R' : Own} (h : ∀ b off, b < w.heap.size -> (R' b off ↔ R b off)) : Step w R (w.alloc o) R' where
 os := rfl
 tape := rfl
 output := rfl
 size := by simp
 block b hb hR := ⟨heap_alloc_old w o b hb, fun off h' => hR off ((h b off hb).1 h')⟩
 cell b off hb hR := ⟨fun h' => hR ((h b off hb).1 h'), World.cell?_of_block (a := ⟨b, off, none⟩) (heap_alloc_old w o b hb)⟩
 sizes b hb := lS (heap_alloc_old w o b hb)
theorem fx (o : Obj) {R' : Own} (h : ∀ b off, b < w.heap.size -> (R' b off ↔ R b off)) (bs : List Nat) : bz w R (w.alloc o) R' bs :=
 ⟨wy o h, fun b _ hb => ⟨heap_alloc_old w o b hb, fun off hr => (h b off hb).2 hr⟩⟩
/-- The writable cells, a new block with none of its own. -/
def Own.cut (R : Own) (n : Nat) : Own := fun b off => b ≠ n /\ R b off
/-- .. or those behind its last cell alone. -/
def Own.OH (R : Own) (n k : Nat) : Own := fun b off => (b ≠ n /\ R b off) ∨ (b = n /\ k <= off)
theorem Own.Ev {R : Own} {n k b off : Nat} (hb : b < n) : (R.OH n k b off ↔ R b off) := ⟨fun h => by rcases h with h | h; exact h.2; exact absurd h.1 (by omega), fun h => .inl ⟨by omega, h⟩⟩
theorem Own.Rw {R : Own} {n b off : Nat} (hb : b < n) : (R.cut n b off ↔ R b off) := ⟨fun h => h.2, fun h => ⟨by omega, h⟩⟩
theorem kG (hE : E.Ok P) {t e : TypeId} (hu : P.underlying t = some (.slice e)) {es : List an} (h : iE E t es = true) (hb : eY es = true) : e = tH := by
 unfold iE at h
 rw [hb] at h
 dsimp only at h
 split at h
 ·rename_i e' hd
  have := hE.iB hd
  rw [hu] at this
  simp at this
  rw [this]
  exact Nat.eq_of_beq_eq_true h
 simp at h
def iL : ac -> Bool
 | .own _ => true
 | .dat (.slice _) => true
 | .dat (.flat (.slice none 0 0)) => true
 | _ => false
theorem gy {cs : List ac} : cK cs = true ↔ ∃ p q, cs = [p, q] /\ Al p = true /\ iL q = true := by
 constructor
 ·intro h
  unfold cK at h
  split at h
  ·exact ⟨_, _, rfl, h, rfl⟩
  ·exact ⟨_, _, rfl, h, rfl⟩
  ·exact ⟨_, _, rfl, h, rfl⟩
  simp at h
 rintro ⟨p, q, rfl, h, hq⟩
 unfold iL at hq
 split at hq
 ·exact h
 ·exact h
 ·exact h
 simp at hq
theorem BL {es ds : List an} (h : eY (es ++ ds) = true) (hne : es ≠ []) : eY es = true := by
 cases es with
 | nil => exact absurd rfl hne
 | cons d es =>
  simp only [List.cons_append] at h
  unfold eY at h ⊢
  split at h
  ·rename_i heq; simp at heq; obtain ⟨rfl, _⟩ := heq; rfl
  simp at h
theorem vK {b cap s : Nat} {w' : World} {R' : Own} {arr : Array Value} {t : TypeId} (hb : w'.heap[b]? = some (.cells arr t (0, 0))) {es : List an} (hs0 : 0 < s) (hs : ∀ d ∈ es, d.cells.length = s)
  {cells : List Value} (hr : cR w' R' cells (es.flatMap an.cells)) (hpre : ∀ (j : Nat) u, cells[j]? = some u -> arr[j]? = some u) (hR : ∀ j, j < es.length * s -> ¬ R' b j)
  (hR' : ∀ j, es.length * s <= j -> j < cap * s ∨ arr.size <= j -> R' b j) (hcap : es.length <= cap) (he : es = [] -> cap = 0) (hin : cap * s <= arr.size) (hlim : es.length <= jv) (hty : eY es = true -> t = tH) :
  ak w' R' N (.own es) (.slice (some ⟨b, 0, none⟩) es.length cap) [b] := by
 simp only [ak]
 exact .row b cap s es arr t hb hs0 hs hcap he hin (LM hb hs0 hs hr hpre hR hcap hlim) (fun x h1 h2 => hR' x h1 h2) hty
theorem jb {size : Nat} : ∀ {k : Nat} {ps : List Nat} {vals : List ac} {vs : List Value} {ds : List an}, ps.length = vals.length -> ag w R N vals vs [] -> ij size k (ps.zip vals) = some ds ->
  ps = List.range' k vs.length /\ cR w R (vs.flatMap fun v => v.cells.toList) (ds.flatMap an.cells) /\ (∀ d ∈ ds, d.cells.length = size) /\ (∀ v ∈ vs, v.cells.size = size) /\ ds.length = vs.length
 | k, [], vals, vs, ds, hl, hr, h => by
  have : vals = [] := List.eq_nil_of_length_eq_zero (by simpa using hl.symm)
  subst this
  obtain ⟨rfl, _⟩ := ba hr
  simp [ij] at h
  subst h
  exact ⟨rfl, trivial, by simp, by simp, rfl⟩
 | k, p :: ps, [], vs, ds, hl, hr, h => by simp at hl
 | k, p :: ps, a :: vals, vs, ds, hl, hr, h => by
  obtain ⟨v, vs', b1, b2, rfl, e2, h1, h2⟩ := aD hr
  obtain ⟨rfl, rfl⟩ := List.append_eq_nil_iff.1 e2.symm
  simp only [List.zip_cons_cons, ij] at h
  split at h
  ·rename_i hp
   subst hp
   split at h
   ·rename_i d hd
    split at h
    ·rename_i hsz
     split at h
     ·rename_i ds' hds
      simp at h
      subst h
      obtain ⟨f1, f2, f3, f4, f5⟩ := jb (by simpa using hl) h2 hds
      have hrd := tL h1 hd
      have hcs := Fi hrd
      refine ⟨by simp [f1, List.range'_succ], ?_, ?_, ?_, by simp [f5]⟩
      ·simpa using jo hcs f2
      ·intro x hx; rcases List.mem_cons.1 hx with rfl | hx
       ·exact hsz
       exact f3 x hx
      intro x hx; rcases List.mem_cons.1 hx with rfl | hx
      ·have := cA hcs; simp at this; omega
      exact f4 x hx
     simp at h
    simp at h
   simp at h
  simp at h
theorem sF (hE : E.Ok P) {t : TypeId} {len : Nat} {ps : Array (Nat × Operand)} {ρ : Operand -> Value} {vals : List ac} {out : Out} (h : oF E t len ps.toList vals = some out)
  (hr : ag w R N vals ((ps.toList.map (·.2)).map ρ) []) (bs : List Nat) :
  out.eff = .keep /\ ∃ cv w' R', (Instr.buildSlice t len (ps.map fun (i, x) => (i, ρ x))).run P w = .ok cv w' /\ bz w R w' R' bs /\ ak w' R' N out.val cv [w.heap.size] := by
 unfold oF at h
 split at h
 ·rename_i i hel
  obtain ⟨e, hu, hty⟩ := eh hE hel
  split at h
  ·rename_i hc
   obtain ⟨hs0, hsm, hvl⟩ := hc
   split at h
   ·rename_i ds hds
    split at h
    ·rename_i hdl0
     obtain ⟨hdl, hbo⟩ := hdl0
     simp at h
     subst h
     refine ⟨rfl, ?_⟩
     obtain ⟨⟨ie, k1, k2, k3, k4, k5⟩, _⟩ := hE.ty e i hty
     have hlen := hr.length
     unfold parts at hds
     obtain ⟨f1, f2, f3, f4, f5⟩ := jb (by rw [List.length_map]; exact hvl.symm) hr hds
     generalize hvs : (ps.toList.map (·.2)).map ρ = vs at *
     have hst : ∀ b off, b < w.heap.size -> (R.cut w.heap.size b off ↔ R b off) := fun b off hb => Own.Rw hb
     have hcps : (ps.map fun (i, x) => (i, ρ x)).toList = (vs.zipIdx 0).map fun x => (x.2, x.1) := by
      apply List.ext_getElem?
      intro k
      have g1 : (ps.toList.map (·.1))[k]? = (List.range' 0 vs.length)[k]? := by rw [f1]
      have g2 : ((ps.toList.map (·.2)).map ρ)[k]? = vs[k]? := by rw [hvs]
      simp only [Array.toList_map, List.getElem?_map, List.getElem?_zipIdx] at g1 g2 ⊢
      cases hk : ps.toList[k]? with
      | none =>
       rw [hk] at g2
       simp at g2
       have : vs[k]? = none := by simpa using g2
       simp [this]
      | some q =>
       rw [hk] at g1 g2
       simp at g1 g2
       have hkl : k < vs.length := by
        rcases Nat.lt_or_ge k vs.length with h' | h'
        ·exact h'
        rw [List.getElem?_eq_none h'] at g2; simp at g2
       rw [List.getElem?_range' hkl] at g1
       simp at g1
       rw [← g2]
       simp [g1]
     by_cases h0 : len = 0
     ·subst h0
      have hv0 : vs = [] := List.eq_nil_of_length_eq_zero (by omega)
      have hd0 : ds = [] := List.eq_nil_of_length_eq_zero hdl
      subst hv0
      subst hd0
      refine ⟨.slice (some ⟨w.heap.size, 0, none⟩) 0 0, w.alloc (.cells #[] e), R.OH w.heap.size 0, ?_, fx _ (fun b off hb => Own.Ev hb) bs, ?_⟩
      ·have hp : ps = #[] := by simpa using hvs
       subst hp
       have hr0 : Array.range 0 = #[] := by apply Array.eq_empty_of_size_eq_zero; simp
       simp [Instr.buildSlice, aW hu, hE.eN hty, Instr.fill, newRow, hr0]
      exact vK (es := []) (cells := []) (s := i.size) (heap_alloc_new w _) hs0 (by simp) trivial (by simp) (by simp) (fun j _ _ => .inr ⟨rfl, Nat.zero_le _⟩) (by simp) (by simp) (by simp) (by simp) (by simp [eY])
     have hzs : ∃ z, ie.zero = some z := ⟨_, k4⟩
     have hfill := Great.fill_whole (s := i.size) hs0 vs ((Array.range (len * ie.size)).map (i.zero.cells[· % i.zero.cells.size]!)) f4 (by rw [k2]; simp; rw [← f5, hdl])
     have hrun := run_buildSlice w t e len (ps.map fun (i, x) => (i, ρ x)) _ ie i.zero hu k1 k4 (by rw [k2]; omega) (by rw [k2]; exact Nat.mul_ne_zero h0 (by omega)) (by rw [hcps, k2]; rw [k2] at hfill; exact hfill)
     have hcl := cA f2
     rw [dm f3] at hcl
     have hstG : ∀ b off, b < w.heap.size -> (R.OH w.heap.size (ds.length * i.size) b off ↔ R b off) := fun b off hb => Own.Ev hb
     refine ⟨_, _, R.OH w.heap.size (ds.length * i.size), hrun, fx _ hstG bs, ?_⟩
     rw [← hdl]
     have hstep : Step w R (w.alloc (.cells (vs.flatMap fun v => v.cells.toList).toArray e)) (R.OH w.heap.size (ds.length * i.size)) := wy _ hstG
     refine vK (s := i.size) (heap_alloc_new w _) hs0 f3 (f2.step hstep) (by simp) (fun j hj h' => by rcases h' with h' | h'; exact h'.1 rfl; omega) (fun j h1 h2 => .inr ⟨rfl, h1⟩) (Nat.le_refl _) (fun hh => by rw [hh]; rfl) (by simp [hcl]) ?_ (kG hE hu hbo)
     unfold jv
     have : len * 1 <= len * i.size := Nat.mul_le_mul_left _ hs0
     omega
    simp at h
   simp at h
  simp at h
 simp at h
theorem wE (hE : E.Ok P) {t : TypeId} {len : Nat} {ps : Array (Nat × Operand)} {ρ : Operand -> Value} {vals : List ac} {out : Out} (h : tU E t len ps.toList vals = some out)
  (hr : ag w R N vals ((ps.toList.map (·.2)).map ρ) []) (bs : List Nat) :
  ∃ o' s w' R', out = ⟨.undef, match Nat.beq len 1 with | true => .row o' s len | false => .grow o' s len⟩ /\ (Instr.buildSlice t len (ps.map fun (i, x) => (i, ρ x))).run P w = .ok (.slice (some ⟨w.heap.size, 0, none⟩) len len) w' /\ bz w R w' R' bs /\ aQ w' R' N o' w.heap.size [] ∧
   (0 < s /\ len <= iD) /\ w.heap.size < w'.heap.size /\ len * s = dQ w' w.heap.size := by
 unfold tU at h
 split at h
 ·rename_i i hel
  obtain ⟨e, hu, hty⟩ := eh hE hel
  split at h
  ·rename_i hc
   obtain ⟨hs0, h0', hsm, hvl⟩ := hc
   split at h
   ·rename_i ds hds
    split at h
    ·rename_i hdl0
     obtain ⟨hdl, hbl⟩ := hdl0
     simp at h
     subst h
     obtain ⟨⟨ie, k1, k2, k3, k4, k5⟩, _⟩ := hE.ty e i hty
     have hlen := hr.length
     unfold parts at hds
     obtain ⟨f1, f2, f3, f4, f5⟩ := jb (by rw [List.length_map]; exact hvl.symm) hr hds
     generalize hvs : (ps.toList.map (·.2)).map ρ = vs at *
     have hcps : (ps.map fun (i, x) => (i, ρ x)).toList = (vs.zipIdx 0).map fun x => (x.2, x.1) := by
      apply List.ext_getElem?
      intro k
      have g1 : (ps.toList.map (·.1))[k]? = (List.range' 0 vs.length)[k]? := by rw [f1]
      have g2 : ((ps.toList.map (·.2)).map ρ)[k]? = vs[k]? := by rw [hvs]
      simp only [Array.toList_map, List.getElem?_map, List.getElem?_zipIdx] at g1 g2 ⊢
      cases hk : ps.toList[k]? with
      | none =>
       rw [hk] at g2
       simp at g2
       have : vs[k]? = none := by simpa using g2
       simp [this]
      | some q =>
       rw [hk] at g1 g2
       simp at g1 g2
       have hkl : k < vs.length := by
        rcases Nat.lt_or_ge k vs.length with h' | h'
        ·exact h'
        rw [List.getElem?_eq_none h'] at g2; simp at g2
       rw [List.getElem?_range' hkl] at g1
       simp at g1
       rw [← g2]
       simp [g1]
     have h0 : len ≠ 0 := by omega
     have hfill := Great.fill_whole (s := i.size) hs0 vs ((Array.range (len * ie.size)).map (i.zero.cells[· % i.zero.cells.size]!)) f4 (by rw [k2]; simp; rw [← f5, hdl])
     have hrun := run_buildSlice w t e len (ps.map fun (i, x) => (i, ρ x)) _ ie i.zero hu k1 k4 (by rw [k2]; omega) (by rw [k2]; exact Nat.mul_ne_zero h0 (by omega)) (by rw [hcps, k2]; rw [k2] at hfill; exact hfill)
     let R' : Own := fun b off => b = w.heap.size ∨ R b off
     have hst : ∀ b off, b < w.heap.size -> (R' b off ↔ R b off) := fun b off hb => ⟨fun h => by rcases h with h | h; exact absurd h (by omega); exact h, fun h => .inr h⟩
     have hk := fun bs => fx (w := w) (R := R) (.cells (vs.flatMap fun v => v.cells.toList).toArray e) hst bs
     have hh : (w.alloc (.cells (vs.flatMap fun v => v.cells.toList).toArray e)).heap[w.heap.size]? = some (.cells (vs.flatMap fun v => v.cells.toList).toArray e (0, 0)) := heap_alloc_new w _
     have hcl := cA f2
     rw [dm f3] at hcl
     refine ⟨_, _, _, R', rfl, hrun, hk bs, ⟨_, e, 0, hh, ?_, fun j _ => .inl rfl, fun hb => by rw [hbl] at hb; simp at hb⟩, ⟨hs0, by have : len * 1 <= len * i.size := Nat.mul_le_mul_left _ hs0; unfold iD; omega⟩, bH hh, ?_⟩
     ·have := (il (N := N) f2).keep (hk [])
      simpa using this
     rw [dV hh]; simp only [List.size_toArray]; rw [hcl, hdl]
    simp at h
   simp at h
  simp at h
 simp at h
/-! #### Append -/
theorem A0 (g off : Nat) (e : TypeId) (news : List Value) (cur : Array Value) (hg : w.heap[g]? = some (.cells cur e (0, 0))) (hfit : off + news.length <= cur.size) (h1 : ∀ u ∈ news, u.oneCell' = true) :
  (storeCells ⟨g, off, none⟩ news).run P w = .ok () (w.setRow g (cur.toList.take off ++ news ++ cur.toList.drop (off + news.length)).toArray) := by
 have hst := run_storeCells_at P g off e news 0 cur w hg (by simpa using hfit) h1
 simpa using hst
theorem ki {g : Nat} {cur : Array Value} {t : TypeId} (hg : w.heap[g]? = some (.cells cur t (0, 0))) (arr : Array Value) (hsz : arr.size = cur.size) {R' : Own}
  (hR : ∀ b off, R' b off -> R b off) (hR2 : ∀ b off, b ≠ g -> (R b off -> R' b off)) (hc : ∀ off, ¬ R g off -> arr[off]? = cur[off]?) (hown : ∃ off, R g off) (bs : List Nat) (hb : g ∉ bs) :
  bz w R (w.setRow g arr) R' bs where
 step :=
  {os := rfl
   tape := rfl
   output := rfl
   size := by simp
   block := fun b hb hnR => by
    have hne : b ≠ g := fun e => by obtain ⟨o, ho⟩ := hown; exact hnR o (e ▸ ho)
    exact ⟨setRow_other w g b _ hne, fun off h' => hnR off (hR _ _ h')⟩
   cell := fun b off hb hnR => by
    refine ⟨fun h' => hnR (hR _ _ h'), ?_⟩
    by_cases hne : b = g
    ·subst hne
     rw [cell_of_row _ b off arr t (0, 0) (setRow_heap w b cur _ t _ hg), cell_of_row w b off cur t (0, 0) hg]
     exact hc off hnR
    exact World.cell?_of_block (a := ⟨b, off, none⟩) (setRow_other w g b _ hne)
   sizes := fun b _ => by
    by_cases hne : b = g
    ·subst hne
     rw [dV (setRow_heap w b cur _ t _ hg), dV hg, hsz]
    exact lS (setRow_other w g b _ hne) }
 same := fun b hbs _ => by
  have hne : b ≠ g := fun e => hb (e ▸ hbs)
  exact ⟨setRow_other w g b _ hne, fun off h' => hR2 b off hne h'⟩
theorem gh (o : Obj) {R' : Own} (h : ∀ b off, b < w.heap.size -> (R' b off ↔ R b off)) (bs : List Nat) : bz w R (w.drew.alloc o) R' bs := by
 have k := fx (w := w.drew) (R := R) o h bs
 exact ⟨⟨k.step.os, k.step.tape, k.step.output, k.step.size, k.step.block, k.step.cell, k.step.sizes⟩, k.same⟩
theorem vr (t ty e : TypeId) (i : TypeInfo) (ht : P.underlying t = some (.slice e)) (hi : P.info? e = some i) (base a : Option Addr) (n cap c : Nat) (h : n <= cap) :
  (Builtin.append_ #[t, t] ty #[.slice base n cap, .slice a 0 c]).run P w = .ok (.slice base n cap) w := by
 cases base <;> cases a <;> simp [Builtin.append_, aW ht, sizeOf, typeInfo, hi, Builtin.lenOf, h, Builtin.firstCells, Go.loadCells, loadCellsFrom, storeCells]
theorem sJ (t ty e e' : TypeId) (i : TypeInfo) (ht : P.underlying t = some (.slice e)) (hi : P.info? e = some i)
  (g sLen sCap : Nat) (cur : Array Value) (hg : w.heap[g]? = some (.cells cur e' (0, 0)))
  (a : Addr) (m c : Nat) (news : List Value) (hl : news.length = m * i.size) (hnews : ∀ j u, news[j]? = some u -> w.cell? (a.add j) = some u) (h1 : ∀ u ∈ news, u.oneCell' = true)
  (hroom : sLen + m <= sCap) (hfit : sLen * i.size + news.length <= cur.size) :
  (Builtin.append_ #[t, t] ty #[.slice (some ⟨g, 0, none⟩) sLen sCap, .slice (some a) m c]).run P w =
   .ok (.slice (some ⟨g, 0, none⟩) (sLen + m) sCap) (w.setRow g (cur.toList.take (sLen * i.size) ++ news ++ cur.toList.drop (sLen * i.size + news.length)).toArray) := by
 have hf := run_firstCells_some (P := P) w i.size m a m c news hl hnews
 have hst := run_storeCells_at P g (sLen * i.size) e' news 0 cur w hg (by simpa using hfit) h1
 simp only [Nat.add_zero] at hst
 simp [Builtin.append_, aW ht, sizeOf, typeInfo, hi, Builtin.lenOf, hroom, hf, Addr.add_lit, hst]
theorem sM : ∀ {vs : List Value} {cs : List an}, cR w R vs cs -> ∀ v ∈ vs, v.oneCell' = true
 | [], [], _, v, hv => by simp at hv
 | u :: vs, c :: cs, h, v, hv => by
  rcases List.mem_cons.1 hv with rfl | hv
  ·exact (eE h.1).2
  exact sM h.2 v hv
 | [], _ :: _, h, _, _ => h.elim
 | _ :: _, [], h, _, _ => h.elim
theorem lT {v : Value} {es : List an} {bs : List Nat} (h : hJ w R v es bs) : (v = .slice none 0 0 /\ es = [] /\ bs = []) ∨
  ∃ b cap s vs t, v = .slice (some ⟨b, 0, none⟩) es.length cap /\ bs = [b] /\ w.heap[b]? = some (.cells vs t (0, 0)) /\ 0 < s /\ (∀ e ∈ es, e.cells.length = s) /\ es.length <= cap /\ (es = [] -> cap = 0) /\ cap * s <= vs.size ∧
   ep w R (.slice (some ⟨b, 0, none⟩) es.length cap) (.slice es) /\ (∀ x, es.length * s <= x -> x < cap * s ∨ vs.size <= x -> R b x) /\ (eY es = true -> t = tH) := by
 cases h with
 | nil => exact .inl ⟨rfl, rfl, rfl⟩
 | row b cap s es vs t h1 h2 h3 h4 h5 h6 h7 h8 h9 => exact .inr ⟨b, cap, s, vs, t, rfl, rfl, h1, h2, h3, h4, h5, h6, h7, h8, h9⟩
theorem iP {i : TI} {es r : List an} {x : ac} (h : hD az.ln i es x = some r) :
  ∃ ds, x = .dat (.slice ds) /\ 0 < i.size /\ (∀ d ∈ ds, d.cells.length = i.size) /\ (∀ d ∈ es, d.cells.length = i.size) /\ 0 < i.bytes /\ (es.length + ds.length) * i.bytes <= 140737488355328 /\ es.length + ds.length <= jv /\ r = es ++ ds := by
 unfold hD at h
 split at h
 ·rename_i ds
  simp only [az.ln] at h
  split at h
  ·simp at h
  rename_i hn
  split at h
  ·rename_i hc
   simp at h
   exact ⟨_, rfl, by rcases Nat.eq_zero_or_pos i.size with h0 | h0; exact absurd h0 hn; exact h0, hc.1, hc.2.1, hc.2.2.1, hc.2.2.2.1, hc.2.2.2.2, h.symm⟩
  simp at h
 simp at h
/-- The new array of an append that grows. -/
theorem sS {e : TypeId} {s : Nat} (hs0 : 0 < s) {es : List an} (hs : ∀ d ∈ es, d.cells.length = s) {cells : List Value} (hr : cR w R cells (es.flatMap an.cells)) (hne : es ≠ []) (hlim : es.length <= jv)
  (cap : Nat) (hcap : es.length <= cap) (rest : Array Value) (hrest : rest.size = (cap - es.length) * s) (hty : eY es = true -> e = tH) (bs : List Nat) :
  ∃ R', bz w R (w.drew.alloc (.cells (cells.toArray ++ rest) e)) R' bs /\ ak (w.drew.alloc (.cells (cells.toArray ++ rest) e)) R' N (.own es) (.slice (some ⟨w.heap.size, 0, none⟩) es.length cap) [w.heap.size] := by
 have hl := cA hr
 rw [dm hs] at hl
 let R' : Own := fun b off => (b ≠ w.heap.size /\ R b off) ∨ (b = w.heap.size /\ es.length * s <= off)
 have hst : ∀ b off, b < w.heap.size -> (R' b off ↔ R b off) := fun b off hb =>
  ⟨fun h => by rcases h with h | h; exact h.2; exact absurd h.1 (by omega), fun h => .inl ⟨by omega, h⟩⟩
 have hk := gh (w := w) (R := R) (.cells (cells.toArray ++ rest) e) hst bs
 refine ⟨R', hk, vK (s := s) (heap_alloc_new w.drew _) hs0 hs (hr.step hk.step) (fun j u hj => ?_) (fun j hj h' => ?_) (fun j h1 _ => .inr ⟨rfl, h1⟩) hcap (fun h' => absurd h' hne) ?_ hlim hty⟩
 ·have hjl : j < cells.length := by
   rcases Nat.lt_or_ge j cells.length with h' | h'
   ·exact h'
   rw [List.getElem?_eq_none h'] at hj; simp at hj
  rw [Array.getElem?_append_left (by simpa using hjl)]
  simpa using hj
 ·rcases h' with h' | h'
  ·exact h'.1 rfl
  omega
 simp only [Array.size_append, List.size_toArray, hrest, hl]
 rw [← Nat.add_mul]
 exact Nat.mul_le_mul_right _ (by omega)
theorem pn (t t2 ty e : TypeId) (i : TypeInfo) (ht : P.underlying t = some (.slice e)) (hi : P.info? e = some i) (base : Option Addr) (n cap : Nat) (h : n <= cap) {u : Value} (hs : Src P i.size t2 u 0 [] w) :
  (Builtin.append_ #[t, t2] ty #[.slice base n cap, u]).run P w = .ok (.slice base n cap) w := by
 have hc := hs.cells
 rcases hs.kind with ⟨e', hk⟩ | hk <;> cases base <;> simp [Builtin.append_, aW ht, aW hk, sizeOf, typeInfo, hi, hs.len, h, hc, storeCells]
theorem nh (t t2 ty e e' : TypeId) (i : TypeInfo) (ht : P.underlying t = some (.slice e)) (hi : P.info? e = some i)
  (g sLen sCap : Nat) (cur : Array Value) (hg : w.heap[g]? = some (.cells cur e' (0, 0)))
  {u : Value} (m : Nat) (news : List Value) (hs : Src P i.size t2 u m news w)
  (hroom : sLen + m <= sCap) (hfit : sLen * i.size + news.length <= cur.size) :
  (Builtin.append_ #[t, t2] ty #[.slice (some ⟨g, 0, none⟩) sLen sCap, u]).run P w =
   .ok (.slice (some ⟨g, 0, none⟩) (sLen + m) sCap) (w.setRow g (cur.toList.take (sLen * i.size) ++ news ++ cur.toList.drop (sLen * i.size + news.length)).toArray) := by
 have hst := run_storeCells_at P g (sLen * i.size) e' news 0 cur w hg (by simpa using hfit) hs.one
 simp only [Nat.add_zero] at hst
 rcases hs.kind with ⟨e2, hk⟩ | hk <;> simp [Builtin.append_, aW ht, aW hk, sizeOf, typeInfo, hi, hs.len, hroom, hs.cells, Addr.add_lit, hst]
/-- An append of what may stand behind, whatever it is. -/
theorem ig (hE : E.Ok P) {t t2 ty : TypeId} {i : TI} {es ds : List an} {v u : Value} {news : List Value} {bsM : List Nat} (hel : elemOf E t = some i) (hs0 : 0 < i.size) (hds : ∀ d ∈ ds, d.cells.length = i.size) (hes : ∀ d ∈ es, d.cells.length = i.size)
  (hbytes : (es.length + ds.length) * i.bytes <= 140737488355328) (hlim : es.length + ds.length <= jv) (ha : ak w R N (.own es) v bsM) (hnr : cR w R news (ds.flatMap an.cells)) (hsrc : Src P i.size t2 u ds.length news w) (hbo : iE E t (es ++ ds) = true)
  (bs : List Nat) (hd : ∀ b ∈ bsM, b ∉ bs) :
  ∃ cv w' R' bsV, (Builtin.append_ #[t, t2] ty #[v, u]).run P w = .ok cv w' /\ bz w R w' R' bs /\ ak w' R' N (.own (es ++ ds)) cv bsV /\ bsV.Nodup /\ (∀ b ∈ bsV, b ∈ bsM ∨ w.heap.size <= b) := by
 obtain ⟨e, hu, hty⟩ := eh hE hel
 obtain ⟨⟨ie, k1, k2, k3, k4, k5⟩, _⟩ := hE.ty e i hty
 have hsrc' : Src P ie.size t2 u ds.length news w := by rw [k2]; exact hsrc
 have hown := bX ha
 have hnl := cA hnr
 rw [dm hds] at hnl
 by_cases hne : ds = []
 ·subst hne
  have hn0 : news = [] := by cases news with | nil => rfl | cons _ _ => simp at hnl
  subst hn0
  have hv0 : ∃ base cap, v = .slice base es.length cap /\ es.length <= cap := by
   cases hown with
   | nil => exact ⟨_, _, rfl, Nat.le_refl _⟩
   | row b cap => exact ⟨_, _, rfl, by assumption⟩
  obtain ⟨base, cap, rfl, hcap⟩ := hv0
  refine ⟨_, w, R, bsM, pn t t2 ty e ie hu k1 base _ cap hcap hsrc', bg _, by simpa using ha, ?_, fun b hb => .inl hb⟩
  rcases lT hown with ⟨_, _, rfl⟩ | ⟨b, _, _, _, _, _, rfl, _⟩ <;> simp
 have hdl : 0 < ds.length := by cases ds with | nil => exact absurd rfl hne | cons _ _ => simp
 have h63 : es.length + ds.length <= 9223372036854775807 := by unfold jv at hlim; omega
 have hfl : ∀ d ∈ es ++ ds, d.cells.length = i.size := fun d hd => by rcases List.mem_append.1 hd with h' | h'; exact hes d h'; exact hds d h'
 have hzc : ∀ (z : Array Value) (n : Nat), (Builtin.zeroCells z n).size = n * z.size := fun z n => size_zeroCells z n
 rcases lT hown with ⟨rfl, rfl, rfl⟩ | ⟨b, cap, s, vs, t', rfl, rfl, hblk, hs0', hs, hcap, he, hin, hrep, hsp, hty'⟩
 ·have hrun := run_append_grow_src (P := P) w t t2 ty e ie i.zero hu k1 k4 none 0 0 [] (by simp [Builtin.firstCells]) u ds.length news hsrc' (by omega) (by simp at h63 ⊢; omega) (growslice_fits (by omega) (by rw [k3]; simpa using hbytes))
  have hge := grownCap_ge w ds.length 0 e
  obtain ⟨R', g1, g2⟩ := sS (N := N) (e := e) hs0 hds hnr hne (by simpa using hlim) (grownCap w ds.length 0 e) hge (Builtin.zeroCells i.zero.cells (grownCap w ds.length 0 e - ds.length)) (by rw [hzc, k5]) (kG hE hu (by simpa using hbo)) bs
  refine ⟨_, _, R', [w.heap.size], hrun, ?_, ?_, by simp, by simp⟩
  ·simpa using g1
  simpa using g2
 by_cases hes0 : es = []
 ·subst hes0
  have hc0 := he rfl
  subst hc0
  have hrun := run_append_grow_src (P := P) w t t2 ty e ie i.zero hu k1 k4 (some ⟨b, 0, none⟩) 0 0 [] (by simp [Builtin.firstCells, Go.loadCells, loadCellsFrom]) u ds.length news hsrc' (by omega) (by simp at h63 ⊢; omega) (growslice_fits (by omega) (by rw [k3]; simpa using hbytes))
  have hge := grownCap_ge w ds.length 0 e
  obtain ⟨R', g1, g2⟩ := sS (N := N) (e := e) hs0 hds hnr hne (by simpa using hlim) (grownCap w ds.length 0 e) hge (Builtin.zeroCells i.zero.cells (grownCap w ds.length 0 e - ds.length)) (by rw [hzc, k5]) (kG hE hu (by simpa using hbo)) bs
  refine ⟨_, _, R', [w.heap.size], hrun, ?_, ?_, by simp, by simp⟩
  ·simpa using g1
  simpa using g2
 obtain rfl : s = i.size := by
  cases es with
  | nil => exact absurd rfl hes0
  | cons d es => rw [← hs d (by simp), hes d (by simp)]
 obtain ⟨b', off', cap', olds, hv', _, hor, hoc⟩ := oR hrep hes0 hes
 simp at hv'
 obtain ⟨⟨rfl, rfl⟩, rfl⟩ := hv'
 have hol := cA hor
 rw [dm hes] at hol
 by_cases hroom : es.length + ds.length <= cap
 ·
  have hmul : (es.length + ds.length) * i.size <= cap * i.size := Nat.mul_le_mul_right _ hroom
  have hmul' : (es.length + ds.length) * i.size = es.length * i.size + ds.length * i.size := Nat.add_mul ..
  have hdpos : 0 < ds.length * i.size := Nat.mul_pos hdl hs0
  have hrun := nh (P := P) (w := w) t t2 ty e t' ie hu k1 b es.length cap vs hblk ds.length news hsrc' hroom (by rw [k2, hnl]; omega)
  rw [k2] at hrun
  generalize harr : (vs.toList.take (es.length * i.size) ++ news ++ vs.toList.drop (es.length * i.size + news.length)).toArray = arr at hrun
  let R' : Own := fun c x => R c x /\ ¬ (c = b /\ es.length * i.size <= x /\ x < (es.length + ds.length) * i.size)
  have hget : ∀ k : Nat, arr[k]? = if k < es.length * i.size then vs[k]? else if k < es.length * i.size + news.length then news[k - es.length * i.size]? else vs[k]? := by
   intro k
   rw [← harr]
   simp only [List.getElem?_toArray]
   have hlt : (vs.toList.take (es.length * i.size)).length = es.length * i.size := by simp; omega
   by_cases q1 : k < es.length * i.size
   ·rw [if_pos q1, List.append_assoc, List.getElem?_append_left (by omega), List.getElem?_take_of_lt q1]; simp
   rw [if_neg q1]
   by_cases q2 : k < es.length * i.size + news.length
   ·rw [if_pos q2, List.getElem?_append_left (by simp; omega), List.getElem?_append_right (by omega), hlt]
   rw [if_neg q2, List.getElem?_append_right (by simp; omega), List.getElem?_drop]
   simp only [List.length_append, hlt, Array.getElem?_toList]
   congr 1
   omega
  have hkeep := ki (R := R) (R' := R') hblk arr (by rw [← harr]; simp; omega) (fun c x h => h.1) (fun c x hc h => ⟨h, fun h' => hc h'.1⟩) (fun off hnR => by
   rw [hget]
   by_cases q1 : off < es.length * i.size
   ·rw [if_pos q1]
   rw [if_neg q1]
   by_cases q2 : off < es.length * i.size + news.length
   ·exact absurd (hsp off (by omega) (.inl (by omega))) hnR
   rw [if_neg q2]) ⟨es.length * i.size, hsp _ (Nat.le_refl _) (.inl (by omega))⟩ bs (hd b (by simp))
  have hasz : arr.size = vs.size := by rw [← harr]; simp; omega
  have hblk' : (w.setRow b arr).heap[b]? = some (.cells arr t' (0, 0)) := setRow_heap w b vs _ t' _ hblk
  have hcs : cR w R (olds ++ news) ((es ++ ds).flatMap an.cells) := by rw [List.flatMap_append]; exact jo hor hnr
  refine ⟨_, _, R', [b], hrun, hkeep, ?_, by simp, fun c hc => .inl hc⟩
  rw [show es.length + ds.length = (es ++ ds).length by simp]
  refine vK (s := i.size) hblk' hs0 hfl (hcs.step hkeep.step) (fun j z hj => ?_) (fun j hj h' => h'.2 ⟨rfl, ?_, ?_⟩) (fun j h1 h2 => ⟨hsp j (by simp at h1; omega) (by rw [← hasz]; exact h2), fun h' => by simp at h1; omega⟩) (by simpa using hroom) (fun h' => by simp at h'; exact absurd h'.1 hes0) ?_ (by simpa using hlim) (fun hb => hty' (BL hb hes0))
  ·rw [hget]
   by_cases q1 : j < es.length * i.size
   ·rw [if_pos q1]
    rw [List.getElem?_append_left (by omega)] at hj
    have := (hoc j z hj).1
    rw [cell_of_row w b (0 + j) vs t' (0, 0) hblk] at this
    simpa using this
   rw [if_neg q1]
   rw [List.getElem?_append_right (by omega), hol] at hj
   have hjl : j - es.length * i.size < news.length := by
    rcases Nat.lt_or_ge (j - es.length * i.size) news.length with h' | h'
    ·exact h'
    rw [List.getElem?_eq_none h'] at hj; simp at hj
   rw [if_pos (by omega)]
   exact hj
  ·have hnR := h'.1
   rcases Nat.lt_or_ge j (es.length * i.size) with q | q
   ·exfalso
    have hz : olds[j]? = some olds[j] := by simp
    exact (hoc j _ hz).2 (by simpa using hnR)
   exact q
  ·simpa using hj
  have : arr.size = vs.size := by
   rw [← harr]; simp; omega
  rw [this]; exact hin
 have holds : ∀ (j : Nat) z, olds[j]? = some z -> w.cell? ((⟨b, 0, none⟩ : Addr).add j) = some z := fun j z hj => by rw [add_plain]; exact (hoc j z hj).1
 have hrun := run_append_grow_src (P := P) w t t2 ty e ie i.zero hu k1 k4 (some ⟨b, 0, none⟩) es.length cap olds (run_firstCells_some w.drew ie.size es.length ⟨b, 0, none⟩ es.length cap olds (by rw [k2]; exact hol) (by simpa using holds)) u ds.length news hsrc' (by omega) (by simp at h63 ⊢; omega) (growslice_fits (by omega) (by rw [k3]; exact hbytes))
 have hge := grownCap_ge w (es.length + ds.length) cap e
 have hcs : cR w R (olds ++ news) ((es ++ ds).flatMap an.cells) := by rw [List.flatMap_append]; exact jo hor hnr
 obtain ⟨R', g1, g2⟩ := sS (N := N) (e := e) hs0 hfl hcs (by simp [hne]) (by simpa using hlim) (grownCap w (es.length + ds.length) cap e) (by simpa using hge) (Builtin.zeroCells i.zero.cells (grownCap w (es.length + ds.length) cap e - (es.length + ds.length))) (by rw [hzc, k5]; simp) (kG hE hu hbo) bs
 refine ⟨_, _, R', [w.heap.size], hrun, ?_, ?_, by simp, by simp⟩
 ·simpa using g1
 simpa using g2
theorem AZ (hE : E.Ok P) {t ty : TypeId} {i : TI} {es r : List an} {x : ac} {v u : Value} {bsM : List Nat} (hel : elemOf E t = some i) (hap : hD E.pr i es x = some r) (hbo : iE E t r = true) (ha : ak w R N (.own es) v bsM) (hx : ak w R N x u [])
  (bs : List Nat) (hd : ∀ b ∈ bsM, b ∉ bs) :
  ∃ cv w' R' bsV, (Builtin.append_ #[t, t] ty #[v, u]).run P w = .ok cv w' /\ bz w R w' R' bs /\ ak w' R' N (.own r) cv bsV /\ bsV.Nodup /\ (∀ b ∈ bsV, b ∈ bsM ∨ w.heap.size <= b) := by
 obtain ⟨e, hu, _⟩ := eh hE hel
 obtain ⟨ds, rfl, hs0, hds, hes, hby, hbytes, hlim, rfl⟩ := iP (by rw [hE.ln] at hap; exact hap)
 obtain ⟨_, hxr⟩ := dj hx
 by_cases hne : ds = []
 ·subst hne
  have hu0 : ∃ a' c, u = .slice a' 0 c := by cases hxr with | nil a c => exact ⟨a, c, rfl⟩ | slice b off cap s es vs => exact ⟨_, _, rfl⟩
  obtain ⟨a', c, rfl⟩ := hu0
  refine ig (news := []) hE hel hs0 hds hes hbytes hlim ha (by simp [cR]) ?_ hbo bs hd
  cases a' with
  | none => exact Src.ofNil w hu c
  | some a' => exact Src.ofSlice w hu a' 0 c [] (by simp) (by simp) (by simp)
 obtain ⟨b2, off2, cap2, news, rfl, _, hnr, hnc⟩ := oR hxr hne hds
 have hnl := cA hnr
 rw [dm hds] at hnl
 have hnews : ∀ (j : Nat) u, news[j]? = some u -> w.cell? ((⟨b2, off2, none⟩ : Addr).add j) = some u := fun j u hj => by rw [add_plain]; exact (hnc j u hj).1
 exact ig hE hel hs0 hds hes hbytes hlim ha hnr (Src.ofSlice w hu ⟨b2, off2, none⟩ ds.length cap2 news hnl hnews (sM hnr)) hbo bs hd
/-! #### The bytes of a string behind a row of bytes -/
theorem uh : ∀ l : List UInt8, cR w R (l.map fun b => Value.int .u8 b.toNat) ((mF l).flatMap an.cells)
 | [] => by simp [cR, mF]
 | b :: r => by
  simp only [mF, List.map_cons, List.flatMap_cons]
  refine ⟨.flat ?_, uh r⟩
  have := b.toNat_lt
  simp only [bV, Bool.and_eq_true, decide_eq_true_eq]
  have h1 : IntKind.u8.min = 0 := by decide
  have h2 : IntKind.u8.max = 255 := by decide
  rw [h1, h2]
  omega
theorem pI : ∀ l : List UInt8, (mF l).length = l.length
 | [] => rfl
 | b :: r => by simp [mF, pI r]
theorem sG (hE : E.Ok P) {t t2 ty : TypeId} {es : List an} {s : ByteArray} {v u : Value} {out : Out} {bsM : List Nat} (h : eM E t t2 [.own es, .dat (.flat (.string s))] = some out) (ha : ak w R N (.own es) v bsM) (hx : ak w R N (.dat (.flat (.string s))) u [])
  (bs : List Nat) (hd : ∀ b ∈ bsM, b ∉ bs) :
  ∃ cv w' R' bsV, (Builtin.append_ #[t, t2] ty #[v, u]).run P w = .ok cv w' /\ bz w R w' R' bs /\ ak w' R' N out.val cv bsV /\ out.eff = .keep /\ bsV.Nodup /\ (∀ b ∈ bsV, b ∈ bsM ∨ w.heap.size <= b) := by
 unfold eM at h
 simp only at h
 split at h
 ·rename_i i hd2 hel
  split at h
  ·rename_i hsz
   have hsz1 : i.size = 1 := by simpa using hsz
   split at h
   ·rename_i r hap
    split at h
    rotate_left
    ·simp at h
    rename_i hbo
    simp at h
    subst h
    obtain ⟨ds, hds0, hs0, hds, hes, hby, hbytes, hlim, rfl⟩ := iP (by rw [hE.ln] at hap; exact hap)
    simp at hds0
    subst hds0
    obtain ⟨_, rfl, _⟩ := aF hx
    have hlen : (mF s.data.toList).length = s.size := by rw [pI, Array.length_toList]; rfl
    have hsrc : Src P i.size t2 (.string s) (mF s.data.toList).length (s.data.toList.map fun b => Value.int .u8 b.toNat) w := by
     rw [hsz1, hlen]; exact Src.ofString w (hE.fD hd2) s
    obtain ⟨cv, w', R', bsV, h1, h2, h3, h4, h5⟩ := ig (ty := ty) hE hel hs0 hds hes hbytes hlim ha (uh _) hsrc hbo bs hd
    exact ⟨cv, w', R', bsV, h1, h2, h3, rfl, h4, h5⟩
   simp at h
  simp at h
 simp at h
end
end Go.Tp

namespace Go.Tp
section
variable {P : Program} {E : bw} {w : World} {R : Own} {N : Name -> Option Nat}
theorem iT {α : Type} : ∀ (off : Nat) (ns l : List α), (da off ns l).length = l.length
 | off, [], l => by cases off <;> cases l <;> rfl
 | off, n :: ns, [] => by cases off <;> rfl
 | 0, n :: ns, a :: l => by simp [da, iT 0 ns l]
 | off + 1, n :: ns, a :: l => by simp [da, iT off (n :: ns) l]
theorem CI (off : Nat) (ns l : List Value) (h : off + ns.length <= l.length) : l.take off ++ ns ++ l.drop (off + ns.length) = da off ns l := by
 apply List.ext_getElem?
 intro k
 rw [iU]
 have hl : (l.take off).length = off := by simp; omega
 by_cases q1 : k < off
 ·rw [if_neg (by omega), List.append_assoc, List.getElem?_append_left (by omega), List.getElem?_take_of_lt q1]
 by_cases q2 : k < off + ns.length
 ·rw [if_pos (by omega), List.getElem?_append_left (by simp; omega), List.getElem?_append_right (by omega), hl]
 rw [if_neg (by omega), List.getElem?_append_right (by simp; omega), List.getElem?_drop]
 simp only [List.length_append, hl]
 congr 1
 omega
theorem Mc {off : Nat} {ns cs ps : List ac} (h : off + ns.length <= cs.length) : da off ns (cs ++ ps) = da off ns cs ++ ps := by
 apply List.ext_getElem?
 intro j
 rw [iU, List.getElem?_append, List.getElem?_append, iU, iT]
 simp only [List.length_append]
 by_cases q : off <= j /\ j < off + ns.length /\ j < cs.length
 ·rw [if_pos ⟨q.1, q.2.1, by omega⟩, if_pos (by omega), if_pos q]
 rw [if_neg (by omega)]
 split
 ·rfl
 rfl
theorem va {off : Nat} {es es' : List an} {cs : List ac} (hes : cs[off]? = some (.own es')) (h : cK (da off [.dat (.slice es)] cs) = true) : cK cs = true := by
 obtain ⟨p, q, e, hp, hq⟩ := gy.1 h
 have hl := congrArg List.length e
 rw [iT] at hl
 match cs, off, hl with
 | [a, b], 0, _ =>
  simp [da] at e
  rw [← e.1] at hp
  simp [Al] at hp
 | [a, b], 1, _ =>
  simp [da] at e hes
  subst hes
  exact gy.2 ⟨a, _, rfl, by rw [e.1]; exact hp, rfl⟩
 | [a, b], off + 2, _ => simp at hes
theorem CJ (hE : E.Ok P) {t : TypeId} {n : Name} {off b : Nat} {v : ac} {x : Value} {cs : List ac} {out : Out} (h : tP E t [.ptr n off, v] (some (.cells cs)) = some out)
  {b1 bsV : List Nat} (hob : aQ w R N (.cells cs) b b1) (hv : ak w R N v x bsV) (bs : List Nat) (hb : b ∉ bs) (hb1 : b ∉ b1) (hbV : b ∉ bsV) :
  out.val = .undef /\ ∃ cs', out.eff = .set (.cells cs') /\ ∃ w' pre mid post, (Instr.storeAt t (.pointer (some ⟨b, off, none⟩)) x).run P w = .ok () w' /\ bz w R w' R bs /\ b1 = pre ++ mid ++ post /\ aQ w' R N (.cells cs') b (pre ++ bsV ++ post) := by
 simp only [tP] at h
 split at h
 ·rename_i i cs0 hty heq
  simp at heq
  subst heq
  split at h
  ·rename_i hc
   obtain ⟨hlen, hfit, hok, hpos, hbld⟩ := hc
   simp at h
   subst h
   refine ⟨rfl, _, rfl, ?_⟩
   obtain ⟨vs, elem, sp, hblk, hr, hR, hsh⟩ := hob
   have hcells := gu hv hok
   have hcl := hcells.length
   have hvl := hr.length
   simp only [List.length_append, List.length_replicate] at hvl
   have hone := uA hcells hok
   have hfit' : off + x.cells.toList.length <= vs.size := by simp at hvl hcl ⊢; omega
   have hrun := A0 (P := P) (w := w) b off elem x.cells.toList vs hblk hfit' hone
   rw [CI off x.cells.toList vs.toList (by simpa using hfit')] at hrun
   have hsz : (da off x.cells.toList vs.toList).toArray.size = vs.size := by simp [iT]
   have hvpos : 0 < vs.size := by simp at hvl hcl; omega
   have hkeepB : ∀ bs : List Nat, b ∉ bs -> bz w R (w.setRow b (da off x.cells.toList vs.toList).toArray) R bs := fun bs hb =>
    ki hblk _ hsz (fun _ _ h => h) (fun _ _ _ h => h) (fun o hnR => by
     have : ¬ o < vs.size := fun hlt => hnR (hR o hlt)
     rw [Array.getElem?_eq_none (by omega), Array.getElem?_eq_none (by omega)]) ⟨0, hR 0 hvpos⟩ bs hb
   obtain ⟨pre, mid, post, e, hput⟩ := pV off (ns := bB v) (us := x.cells.toList) hr (by simp; omega) hcl
   refine ⟨_, pre, mid, post, ?_, hkeepB bs hb, e, ?_⟩
   ·have : x.cells.size = i.size := by simp at hcl; omega
    simp [Instr.storeAt, Instr.sureAddr, storeVar, hE.eN hty, this, hrun]
   refine ⟨(da off x.cells.toList vs.toList).toArray, elem, sp, setRow_heap w b vs _ elem _ hblk, ?_, fun j hj => hR j (by omega), fun hb => hsh (by rw [hb] at hbld; simpa using hbld)⟩
   have hk1 := hkeepB (pre ++ post) (by intro h'; exact hb1 (by rw [e]; simp at h' ⊢; rcases h' with h' | h' <;> simp [h']))
   have hk2 := hkeepB bsV hbV
   rw [← Mc (by omega)]
   simpa using hput bsV _ _ hk1 (hcells.keep hk2)
  simp at h
 simp at h
/-- The writable cells, a new block among them. -/
def Own.more (R : Own) (n : Nat) : Own := fun b off => b = n ∨ R b off
theorem Own.nF {R : Own} {n b off : Nat} (hb : b < n) : (R.more n b off ↔ R b off) := ⟨fun h => by rcases h with h | h; omega; exact h, fun h => .inr h⟩
/-- A new object of cells. -/
theorem Ae {cs : List ac} {vs : Array Value} {bsV : List Nat} (hr : ag w R N cs vs.toList bsV) (elem : TypeId) (hsh : cK cs = true -> elem = O6) (bs : List Nat) :
  bz w R (w.alloc (.cells vs elem)) (R.more w.heap.size) bs /\ aQ (w.alloc (.cells vs elem)) (R.more w.heap.size) N (.cells cs) w.heap.size bsV := by
 have hk := fun bs => fx (w := w) (R := R) (.cells vs elem) (R' := R.more w.heap.size) (fun b off hb => Own.nF hb) bs
 exact ⟨hk bs, vs, elem, 0, heap_alloc_new w _, by simpa using hr.keep (hk bsV), fun j _ => .inl rfl, fun h => ⟨hsh h, rfl⟩⟩
theorem EK : vl #[] 0 := ⟨by simp, by simp⟩
theorem GZ {ents : Array MapEntry} {clock : Nat} (h : vl ents clock) {k v : Value} : vl (ents.push { key := k, val := v, born := clock }) (clock + 1) := by
 obtain ⟨h1, h2⟩ := h
 constructor
 ·intro x hx
  simp at hx
  rcases hx with hx | rfl
  ·have := h1 x (by simpa using hx); omega
  simp
 simp only [Array.toList_push, List.map_append, List.map_cons, List.map_nil, List.nodup_append]
 refine ⟨h2, by simp, ?_⟩
 intro a ha b hb e
 simp only [List.mem_map] at ha
 obtain ⟨x, hx, rfl⟩ := ha
 simp at hb
 subst hb
 have := h1 x hx
 omega
theorem mO (f : MapEntry -> MapEntry) (hf : ∀ e, (f e).born = e.born) : ∀ (l : List MapEntry) (i : Nat), (l.modify i f).map (·.born) = l.map (·.born)
 | [], i => by cases i <;> simp
 | e :: l, 0 => by simp [hf]
 | e :: l, i + 1 => by simpa using mO f hf l i
theorem Cj {ents : Array MapEntry} {clock : Nat} (h : vl ents clock) (i : Nat) (f : MapEntry -> MapEntry) (hf : ∀ e, (f e).born = e.born) : vl (ents.modify i f) clock := by
 obtain ⟨h1, h2⟩ := h
 have hm := mO f hf ents.toList i
 refine ⟨?_, by simpa [hm] using h2⟩
 intro x hx
 have hx' : x.born ∈ (ents.toList.modify i f).map (·.born) := List.mem_map.2 ⟨x, by simpa using hx, rfl⟩
 rw [hm] at hx'
 obtain ⟨y, hy, e⟩ := List.mem_map.1 hx'
 have := h1 y hy
 omega
theorem EJ {ents : Array MapEntry} {clock : Nat} (h : vl ents clock) (i : Nat) : vl (ents.eraseIdxIfInBounds i) clock := by
 obtain ⟨h1, h2⟩ := h
 have hs : (ents.eraseIdxIfInBounds i).toList.Sublist ents.toList := by
  simp only [Array.toList_eraseIdxIfInBounds]
  exact List.eraseIdx_sublist ents.toList i
 exact ⟨fun x hx => h1 x (hs.subset hx), h2.sublist (hs.map _)⟩
theorem Qo (bs : List Nat) :
  bz w R (w.alloc (.map #[] 0)) (R.more w.heap.size) bs /\ aQ (w.alloc (.map #[] 0)) (R.more w.heap.size) N (.map []) w.heap.size [] := by
 have hk := fun bs => fx (w := w) (R := R) (.map #[] 0) (R' := R.more w.heap.size) (fun b off hb => Own.nF hb) bs
 exact ⟨hk bs, rfl, .inl rfl, #[], 0, heap_alloc_new w _, rfl, EK⟩
/-- A map's block set anew. -/
theorem eC {b clock clock' : Nat} {ents ents' : Array MapEntry} (hb : w.heap[b]? = some (.map ents clock)) (hR : R b 0) (bs : List Nat) (hbs : b ∉ bs) :
  bz w R { w with heap := w.heap.setIfInBounds b (.map ents' clock') } R bs := by
 have hother : ∀ c, c ≠ b -> (w.heap.setIfInBounds b (.map ents' clock'))[c]? = w.heap[c]? := fun c hc => by simp [Array.getElem?_setIfInBounds_ne (Ne.symm hc)]
 refine ⟨⟨rfl, rfl, rfl, by simp, fun c hc hnR => ⟨hother c (fun e => hnR 0 (e ▸ hR)), hnR⟩, fun c off hc hnR => ⟨hnR, ?_⟩, fun c hc => ?_⟩, fun c hc _ => ⟨hother c (fun e => hbs (e ▸ hc)), fun _ h => h⟩⟩
 ·by_cases hcb : c = b
  ·subst hcb
   have h2 : (w.heap.setIfInBounds c (.map ents' clock'))[c]? = some (.map ents' clock') := by simp [bH hb]
   simp only [World.cell?, hb, h2]
  exact World.cell?_of_block (a := ⟨c, off, none⟩) (hother c hcb)
 by_cases hcb : c = b
 ·subst hcb
  have h2 : (w.heap.setIfInBounds c (.map ents' clock'))[c]? = some (.map ents' clock') := by simp [bH hb]
  simp only [dQ, hb, h2]
 exact lS (hother c hcb)
theorem GX (a b : ByteArray) : (a == b) = true ↔ a = b := by
 constructor
 ·intro h
  obtain ⟨a⟩ := a
  obtain ⟨b⟩ := b
  have : (a == b) = true := h
  rw [eq_of_beq this]
 rintro rfl
 obtain ⟨a⟩ := a
 show (a == a) = true
 simp
theorem Lr {td : TypeDesc} (hk : td = .string ∨ (∃ k, td = .int k) ∨ td = .bool) {x y : Value} (h : Instr.sameNow td x y = some true) : x = y /\ ∀ n, Instr.sameBits n y x = true := by
 rcases hk with rfl | ⟨k, rfl⟩ | rfl
 ·cases x <;> cases y <;> simp [Instr.sameNow] at h
  have h' := (GX _ _).1 h
  subst h'
  exact ⟨rfl, fun n => by cases n <;> simpa [Instr.sameBits] using h⟩
 ·cases x <;> cases y <;> simp [Instr.sameNow] at h
  obtain ⟨rfl, rfl⟩ := h
  exact ⟨rfl, fun n => by cases n <;> simp [Instr.sameBits]⟩
 cases x <;> cases y <;> simp [Instr.sameNow] at h
 subst h
 exact ⟨rfl, fun n => by cases n <;> simp [Instr.sameBits]⟩
theorem wZ : ∀ {es : List (Value × an)} {ents : List MapEntry} {i : Nat} {e : MapEntry} {d : an} {f : MapEntry -> MapEntry}, dg w R es ents -> ents[i]? = some e -> (f e).key = e.key -> ss w R (f e).val d ->
  dg w R (setAt i d es) (ents.modify i f)
 | [], _, i, e, d, f, h, he, _, _ => by simp [dg] at h; subst h; simp at he
 |(k, x) :: es, _, 0, e, d, f, ⟨e0, es', h1, h2, h3, h4⟩, he, hk, hd => by
  subst h1
  simp at he
  subst he
  exact ⟨f e0, es', by simp, by rw [hk]; exact h2, hd, h4⟩
 |(k, x) :: es, _, i + 1, e, d, f, ⟨e0, es', h1, h2, h3, h4⟩, he, hk, hd => by
  subst h1
  simp at he
  exact ⟨e0, es'.modify i f, by simp, h2, h3, wZ h4 he hk hd⟩
theorem xb : ∀ {es : List (Value × an)} {ents : List MapEntry} {i : Nat}, dg w R es ents -> dg w R (uS i es) (ents.eraseIdx i)
 | [], _, i, h => by simp [dg] at h; subst h; simp [uS, dg]
 |(k, x) :: es, _, 0, ⟨e0, es', h1, h2, h3, h4⟩ => by subst h1; simpa [uS] using h4
 |(k, x) :: es, _, i + 1, ⟨e0, es', h1, h2, h3, h4⟩ => by subst h1; exact ⟨e0, es'.eraseIdx i, by simp, h2, h3, xb h4⟩
theorem ug : ∀ {es : List (Value × an)} {ents : List MapEntry} {e : MapEntry} {k : Value} {d : an}, dg w R es ents -> e.key = k -> ss w R e.val d -> dg w R (es ++ [(k, d)]) (ents ++ [e])
 | [], _, e, k, d, h, hk, hd => by simp [dg] at h; subst h; exact ⟨e, [], by simp, hk, hd, rfl⟩
 |(x, y) :: es, _, e, k, d, ⟨e0, es', h1, h2, h3, h4⟩, hk, hd => by subst h1; exact ⟨e0, es' ++ [e], by simp, h2, h3, ug h4 hk hd⟩
theorem mK (hE : E.Ok P) {t : TypeId} {n : Name} {b : Nat} {kv v : ac} {kx x : Value} {es : List (Value × an)} {out : Out} (h : cY E t [.map n, kv, v] (some (.map es)) = some out)
  (hob : aQ w R N (.map es) b []) (hk : ak w R N kv kx []) {bsV : List Nat} (hv : ak w R N v x bsV) (bs : List Nat) (hb : b ∉ bs) :
  out.val = .undef /\ ∃ es', out.eff = .set (.map es') /\ ∃ w', (Instr.mapUpdate t (.map (some b)) kx x).run P w = .ok () w' /\ bz w R w' R bs /\ aQ w' R N (.map es') b [] := by
 unfold cY at h
 split at h
 ·rename_i n' k v' heq
  simp at heq
  obtain ⟨rfl, rfl, rfl⟩ := heq
  obtain ⟨_, rfl, _⟩ := aF hk
  split at h
  ·rename_i kt et es0 hd heq2
   simp at heq2
   subst heq2
   split at h
   ·rename_i td d hkd hdat
    obtain ⟨hku, hkk⟩ := Ga hE hkd
    have hmu := hE.lG hd
    obtain ⟨_, hR, ents, clock, hblk, hrm, hbo⟩ := hob
    have hdr := tL hv hdat
    have hset : ∀ o, (setObj b o).run P w = .ok () { w with heap := w.heap.setIfInBounds b o } := fun o => by simp [setObj, Sem.run, hblk]
    have hget : (getObj b).run P w = .ok (.map ents clock) w := by simp [getObj, Sem.run, hblk]
    split at h
    ·rename_i i d0 hf
     simp at h
     subst h
     refine ⟨rfl, _, rfl, ?_⟩
     obtain ⟨e, f1, f2, f3, f4, f5, f6⟩ := fy td _ hrm (oW hE hf)
     simp at f1
     obtain ⟨hsame, hbits⟩ := Lr hkk f5
     refine ⟨{ w with heap := w.heap.setIfInBounds b (.map (ents.modify i fun e => { e with key := kx, val := x }) clock) }, ?_, eC hblk hR bs hb, ?_⟩
     ·simp [Instr.mapUpdate, aW hmu, hget, run_checkKey hku hkk, run_findKey hku f3, Instr.keyThatStays, f1, hbits, hset]
     have hk' := eC (R := R) (ents' := ents.modify i fun e => { e with key := kx, val := x }) (clock' := clock) hblk hR [] (by simp)
     refine ⟨rfl, hR, ents.modify i (fun e => { e with key := kx, val := x }), clock, by simp [bH hblk], ?_, Cj hbo i _ fun _ => rfl⟩
     have := wZ (f := fun e => { e with key := kx, val := x }) hrm (by simpa using f1) (by simpa using hsame) hdr
     simpa using this.step hk'.step
    ·rename_i hf
     simp at h
     subst h
     refine ⟨rfl, _, rfl, ?_⟩
     have f3 := fy td _ hrm (oW hE hf)
     refine ⟨{ w with heap := w.heap.setIfInBounds b (.map (ents.push { key := kx, val := x, born := clock }) (clock + 1)) }, ?_, eC hblk hR bs hb, ?_⟩
     ·simp [Instr.mapUpdate, aW hmu, hget, run_checkKey hku hkk, run_findKey hku f3, hset]
     have hk' := eC (R := R) (ents' := ents.push { key := kx, val := x, born := clock }) (clock' := clock + 1) hblk hR [] (by simp)
     refine ⟨rfl, hR, ents.push { key := kx, val := x, born := clock }, clock + 1, by simp [bH hblk], ?_, GZ hbo⟩
     have := ug (e := { key := kx, val := x, born := clock }) hrm rfl hdr
     simpa using this.step hk'.step
    simp at h
   simp at h
  simp at h
 simp at h
theorem AY (hE : E.Ok P) {t ty : TypeId} {ats : Array TypeId} (hat : ats[0]? = some t) {n : Name} {b : Nat} {kv : ac} {kx : Value} {es : List (Value × an)} {out : Out} (h : kN E t [.map n, kv] (some (.map es)) = some out)
  (hob : aQ w R N (.map es) b []) (hk : ak w R N kv kx []) (bs : List Nat) (hb : b ∉ bs) :
  ∃ cv w', (Builtin.delete_ ats ty #[.map (some b), kx]).run P w = .ok cv w' /\ bz w R w' R bs /\ ak w' R N out.val cv [] ∧
   ∃ es', out.eff = .set (.map es') /\ aQ w' R N (.map es') b [] := by
 unfold kN at h
 split at h
 ·rename_i n' k heq
  simp at heq
  obtain ⟨rfl, rfl⟩ := heq
  obtain ⟨_, rfl, _⟩ := aF hk
  split at h
  ·rename_i kt et es0 hd heq2
   simp at heq2
   subst heq2
   split at h
   ·rename_i td hkd
    obtain ⟨hku, hkk⟩ := Ga hE hkd
    have hmu := hE.lG hd
    obtain ⟨_, hR, ents, clock, hblk, hrm, hbo⟩ := hob
    have hset : ∀ o, (setObj b o).run P w = .ok () { w with heap := w.heap.setIfInBounds b o } := fun o => by simp [setObj, Sem.run, hblk]
    have hget : (getObj b).run P w = .ok (.map ents clock) w := by simp [getObj, Sem.run, hblk]
    have htup : ∀ w', ak w' R N (.tup []) (.tuple #[]) [] := fun w' => by simp only [ak]; exact ⟨[], rfl, aT⟩
    split at h
    ·rename_i i d0 hf
     simp at h
     subst h
     obtain ⟨e, f1, f2, f3, f4, f5, f6⟩ := fy td _ hrm (oW hE hf)
     refine ⟨.tuple #[], { w with heap := w.heap.setIfInBounds b (.map (ents.eraseIdxIfInBounds i) clock) }, ?_, eC hblk hR bs hb, htup _, ⟨_, rfl, rfl, hR, ents.eraseIdxIfInBounds i, clock, by simp [bH hblk], ?_, EJ hbo i⟩⟩
     ·simp [Builtin.delete_, hat, aW hmu, hget, run_checkKey hku hkk, run_findKey hku f3, hset]
     have hk' := eC (R := R) (ents' := ents.eraseIdxIfInBounds i) (clock' := clock) hblk hR [] (by simp)
     have := (xb (i := i) hrm).step hk'.step
     simpa using this
    ·rename_i hf
     simp at h
     subst h
     have f3 := fy td _ hrm (oW hE hf)
     refine ⟨.tuple #[], { w with heap := w.heap.setIfInBounds b (.map ents clock) }, ?_, eC hblk hR bs hb, htup _, ⟨_, rfl, rfl, hR, ents, clock, by simp [bH hblk], ?_, hbo⟩⟩
     ·simp [Builtin.delete_, hat, aW hmu, hget, run_checkKey hku hkk, run_findKey hku f3, hset]
     exact hrm.step (eC (R := R) (ents' := ents) (clock' := clock) hblk hR [] (by simp)).step
    simp at h
   simp at h
  simp at h
 simp at h
end
end Go.Tp

namespace Go.Tp
mutual
def eX : ac -> Bool
 | .ptr (.loc _) _ => false
 | .map (.loc _) => false
 | .win (.loc _) _ _ _ => false
 | .fn _ first captured => bG first && bG captured
 | .agg cs => bG cs
 | .tup cs => bG cs
 | _ => true
def bG : List ac -> Bool
 | [] => true
 | a :: r => eX a && bG r
end
mutual
def mentions (n : Name) : ac -> Bool
 | .ptr m _ => decide (m = n)
 | .map m => decide (m = n)
 | .win m _ _ _ => decide (m = n)
 | .fn _ first captured => aV n first || aV n captured
 | .agg cs => aV n cs
 | .tup cs => aV n cs
 | _ => false
def aV (n : Name) : List ac -> Bool
 | [] => false
 | a :: r => mentions n a || aV n r
end
/-- What names the object n is forgotten. -/
def cQ (n : Name) : List ac -> List ac
 | [] => []
 | a :: r => (if mentions n a = true then .undef else a) :: cQ n r
def jR (n : Name) : List (Name × aN) -> List (Name × aN)
 | [] => []
 |(m, .cells cs) :: r => if m = n then jR n r else (m, .cells (cQ n cs)) :: jR n r
 |(m, .map es) :: r => if m = n then jR n r else (m, .map es) :: jR n r
def br (l : List ac) (t : Nat) : ac := match l[t]? with | some v => v | none => .undef
def aa.put (s : aa) (dst : Option Tmp) (v : ac) : aa :=
 match dst with
 | some d => { s with tmps := s.tmps.set d v }
 | none => s
def aa.obj (s : aa) (n : Name) : Option aN :=
 match n with
 | .loc i => dM (.loc i) s.locs
 | .out o => dM (.out o) s.heap
def cT : aN -> Bool
 | .cells cs => bG cs
 | .map _ => true
def aa.setObj (s : aa) (n : Name) (o : aN) : Option aa :=
 match n with
 | .loc i => some { s with locs := hZ (.loc i) o s.locs }
 | .out k => if cT o = true then some { s with heap := hZ (.out k) o s.heap } else none
section
variable (E : bw) (G : bF)
def dY (s : aa) : Operand -> ac
 | .tmp t => br s.tmps t
 | .const v => bZ v
 | .global g => match G g with | some cs => .ref cs | none => .undef
 | .func f => .fn (.func f) [] []
def opsL : Op -> List Operand
 | .move x | .assign x | .box _ x | .load _ x | .nilCheck x | .unOp _ _ x | .convert _ _ x | .fieldAddr _ x _ | .field _ x _ | .extract x _ => [x]
 | .pick c a b => [c, a, b]
 | .build _ ps | .buildSlice _ _ ps => ps.toList.map (·.2)
 | .store _ a v | .binOp _ _ a v _ | .indexAddr _ a v | .index _ a v | .lookup _ a v _ => [a, v]
 | .makeFunc _ first captured => first.toList ++ captured.toList
 | .slice _ x l h _ => x :: (l.toList ++ h.toList)
 | .mapUpdate _ m k v => [m, k, v]
 | .makeSlice _ l c => [l, c]
 | .insert _ m k v => [m, k, v]
 | .call c => c.args.toList
 | _ => []
def aJ (s : aa) (mv : Option Nat) : Nat -> List Operand -> List ac
 | _, [] => []
 | k, x :: r => (if mv = some k then dY G s x else cB (dY G s x)) :: aJ s mv (k + 1) r
/-- The slot that loses its ownership. -/
def bC (s : aa) (mv : Option Nat) (xs : List Operand) : aa :=
 match mv with
 | none => s
 | some k => match xs[k]? with
  | some (.tmp t) => { s with tmps := s.tmps.set t (cB (br s.tmps t)) }
  | _ => s
def xG (d : Nat) : aN -> ac
 | .cells _ => .ptr (.loc d) 0
 | .map _ => .map (.loc d)
def newObj (s : aa) (d : Nat) (o : aN) : aa :=
 {s with tmps := (cQ (.loc d) s.tmps).set d (xG d o), locs := (.loc d, o) :: jR (.loc d) s.locs }
/-- A local row of a new name. -/
def lY (s : aa) (d : Nat) (o : aN) (sz len : Nat) : aa :=
 {s with tmps := (cQ (.loc d) s.tmps).set d (.win (.loc d) sz 0 len), locs := (.loc d, o) :: jR (.loc d) s.locs }
/-- A new object by a lasting name. -/
def qd (k : Nat) : aN -> ac
 | .cells _ => .ptr (.out k) 0
 | .map _ => .map (.out k)
/-- The new object may name no object that goes. -/
def lA (d : Nat) : aN -> Bool
 | .cells cs => !aV (.loc d) cs
 | .map _ => true
def jJ (q : Bool) (o : Op) : Option Nat := if q = true then none else HU o
def bc (s : aa) (o : Op) (vals : List ac) : Option aN := match looks o vals with | some n => s.obj n | none => none
def dr (o : Oper) (n : Option Name) (s : aa) (out : Out) : Option aa :=
 match out.eff with
 | .keep => some (s.put o.dst out.val)
 | .set ob' => (match n with
  | some n => (match s.setObj n ob' with | some s => some (s.put o.dst out.val) | none => none)
  | none => none)
 | .new ob' => (match o.dst with
  | some d => if lA d ob' = true then some (newObj s d ob') else none
  | none => none)
 | .fresh ob' => if cT ob' = true then some (({ s with heap := (.out s.next, ob') :: s.heap, next := s.next + 1 } : aa).put o.dst (qd s.next ob')) else none
 | .row ob' sz len => (match o.dst with
  | some d => if lA d ob' = true then some (lY s d ob' sz len) else none
  | none => none)
 | .grow ob' sz len => (match n with
  | some (.loc k) => if cT ob' = true then some (({ s with locs := ji (.loc k) s.locs, heap := (.out s.next, ob') :: s.heap, next := s.next + 1 } : aa).put o.dst (.win (.out s.next) sz 0 len)) else none
  | some (.out k) => if cT ob' = true then some (({ s with heap := (.out s.next, ob') :: ji (.out k) s.heap, next := s.next + 1 } : aa).put o.dst (.win (.out s.next) sz 0 len)) else none
  | none => if cT ob' = true then some (({ s with heap := (.out s.next, ob') :: s.heap, next := s.next + 1 } : aa).put o.dst (.win (.out s.next) sz 0 len)) else none)
/-- One operation that is no call of a function; q: nothing that is owned is moved. -/
def cL (q take : Bool) (o : Oper) (s : aa) : Option aa :=
 match iQ E take o.op (aJ G s (jJ q o.op) 0 (opsL o.op)) (bc s o.op (aJ G s (jJ q o.op) 0 (opsL o.op))) with
 | none => none
 | some out => dr o (looks o.op (aJ G s (jJ q o.op) 0 (opsL o.op))) (bC s (jJ q o.op) (opsL o.op)) out
end
end Go.Tp

namespace Go.Tp
section
variable {P : Program} {E : bw} {G : bF} {w : World} {R : Own} {N N' : Name -> Option Nat}
/-! #### Cells that are not known -/
theorem pC : ∀ (l m : List ac), bG (l ++ m) = (bG l && bG m)
 | [], m => by simp [bG]
 | a :: l, m => by simp [bG, pC l m, Bool.and_assoc]
theorem qY : ∀ k : Nat, bG (List.replicate k .undef) = true
 | 0 => rfl
 | k + 1 => by simp [List.replicate_succ, bG, eX, qY k]
theorem iq (cs : List ac) (k : Nat) : bG (cs ++ List.replicate k .undef) = bG cs := by rw [pC, qY, Bool.and_true]
theorem lv (n : Name) : ∀ (l m : List ac), aV n (l ++ m) = (aV n l || aV n m)
 | [], m => by simp [aV]
 | a :: l, m => by simp [aV, lv n l m, Bool.or_assoc]
theorem mN (n : Name) : ∀ k : Nat, aV n (List.replicate k .undef) = false
 | 0 => rfl
 | k + 1 => by simp [List.replicate_succ, aV, mentions, mN n k]
theorem zk (n : Name) (cs : List ac) (k : Nat) : aV n (cs ++ List.replicate k .undef) = aV n cs := by rw [lv, mN, Bool.or_false]
theorem EL {n : Name} {cs : List ac} (h : cK (cQ n cs) = true) : cK cs = true := by
 obtain ⟨p, q, e, hp, hq⟩ := gy.1 h
 match cs with
 | [] => simp [cQ] at e
 | [a] => simp [cQ] at e
 | [a, b] =>
  simp only [cQ, List.cons.injEq, and_true] at e
  obtain ⟨e1, e2⟩ := e
  refine gy.2 ⟨a, b, rfl, ?_, ?_⟩
  ·split at e1
   ·rw [← e1] at hp; simp [Al] at hp
   rw [e1]; exact hp
  split at e2
  ·rw [← e2] at hq; simp [iL] at hq
  rw [e2]; exact hq
 | _ :: _ :: _ :: _ => simp [cQ] at e
theorem pB (n : Name) : ∀ (l m : List ac), cQ n (l ++ m) = cQ n l ++ cQ n m
 | [], m => by simp [cQ]
 | a :: l, m => by simp [cQ, pB n l m]
theorem qU (n : Name) : ∀ k : Nat, cQ n (List.replicate k .undef) = List.replicate k .undef
 | 0 => rfl
 | k + 1 => by simp [List.replicate_succ, cQ, mentions, qU n k]
theorem Fq (n : Name) (cs : List ac) (k : Nat) : cQ n (cs ++ List.replicate k .undef) = cQ n cs ++ List.replicate k .undef := by rw [pB, qU]
theorem ez : ∀ {as cs : List ac} {vs : List Value} {bs : List Nat}, ag w R N (as ++ cs) vs bs -> ∃ us1 us2 b1 b2, vs = us1 ++ us2 /\ bs = b1 ++ b2 /\ ag w R N as us1 b1 /\ ag w R N cs us2 b2
 | [], _, vs, bs, h => ⟨[], vs, [], bs, rfl, rfl, aT, h⟩
 | a :: as, cs, _, _, h => by
  obtain ⟨v, vs', b1, b2, rfl, rfl, h1, h2⟩ := aD (as := as ++ cs) h
  obtain ⟨us1, us2, c1, c2, rfl, rfl, h3, h4⟩ := ez h2
  exact ⟨v :: us1, us2, b1 ++ c1, c2, rfl, by simp, aH h1 h3, h4⟩
/-! #### What is owned exists -/
theorem hJ.lt {v : Value} {es : List an} {bs : List Nat} (h : hJ w R v es bs) : ∀ b ∈ bs, b < w.heap.size := by
 rcases lT h with ⟨_, _, rfl⟩ | ⟨b, cap, s, vs, t, _, rfl, hb, _⟩
 ·simp
 intro c hc; simp at hc; subst hc; exact bH hb
mutual
theorem ak.lt : ∀ {a : ac} {v : Value} {bs : List Nat}, ak w R N a v bs -> ∀ b ∈ bs, b < w.heap.size
 | .dat _, _, _, h => by simp only [ak] at h; obtain ⟨rfl, _⟩ := h; simp
 | .own _, _, _, h => by simp only [ak] at h; exact h.lt
 | .ref _, _, _, h => by simp only [ak] at h; obtain ⟨rfl, _⟩ := h; simp
 | .ptr _ _, _, _, h => by simp only [ak] at h; obtain ⟨rfl, _⟩ := h; simp
 | .map _, _, _, h => by simp only [ak] at h; obtain ⟨rfl, _⟩ := h; simp
 | .win _ _ _ _, _, _, h => by simp only [ak] at h; obtain ⟨rfl, _⟩ := h; simp
 | .fn _ _ _, _, _, h => by simp only [ak] at h; obtain ⟨rfl, _⟩ := h; simp
 | .agg cs, _, _, h => by simp only [ak] at h; obtain ⟨vs, _, h⟩ := h; exact ag.lt (as := cs) h
 | .tup cs, _, _, h => by simp only [ak] at h; obtain ⟨vs, _, h⟩ := h; exact ag.lt (as := cs) h
 | .undef, _, _, h => by simp only [ak] at h; subst h; simp
theorem ag.lt : ∀ {as : List ac} {vs : List Value} {bs : List Nat}, ag w R N as vs bs -> ∀ b ∈ bs, b < w.heap.size
 | [], _, _, h => by simp only [ag] at h; obtain ⟨_, rfl⟩ := h; simp
 | a :: as, _, _, h => by
  simp only [ag] at h
  obtain ⟨v, vs', b1, b2, _, rfl, h1, h2⟩ := h
  intro b hb
  rcases List.mem_append.1 hb with hb | hb
  ·exact ak.lt (a := a) h1 b hb
  exact ag.lt (as := as) h2 b hb
end
theorem aQ.lt {o : aN} {b : Nat} {bs : List Nat} (h : aQ w R N o b bs) : b < w.heap.size /\ ∀ c ∈ bs, c < w.heap.size := by
 cases o with
 | cells cs => obtain ⟨vs, e, sp, hb, hr, _⟩ := h; exact ⟨bH hb, hr.lt⟩
 | map es => obtain ⟨rfl, _, ents, cl, hb, _⟩ := h; exact ⟨bH hb, by simp⟩
theorem al.lt : ∀ {os : List (Name × aN)} {bs : List Nat}, al w R N os bs -> ∀ b ∈ bs, b < w.heap.size
 | [], _, h => by simp [al] at h; subst h; simp
 |(_, _) :: _, _, ⟨b, b1, b2, e, _, h1, h2⟩ => by
  subst e
  intro c hc
  obtain ⟨g1, g2⟩ := h1.lt
  simp at hc
  rcases hc with rfl | hc | hc
  ·exact g1
  ·exact g2 c hc
  exact al.lt h2 c hc
/-! #### Names -/
mutual
theorem ak.vF : ∀ {a : ac} {v : Value} {bs : List Nat}, ak w R N a v bs -> eX a = true -> (∀ o, N' (.out o) = N (.out o)) -> ak w R N' a v bs
 | .dat _, _, _, h, _, _ => by simp only [ak] at h ⊢; exact h
 | .own _, _, _, h, _, _ => by simp only [ak] at h ⊢; exact h
 | .ref _, _, _, h, _, _ => by simp only [ak] at h ⊢; exact h
 | .ptr (.loc _) _, _, _, _, hn, _ => by simp [eX] at hn
 | .ptr (.out _) _, _, _, h, _, hN => by simp only [ak, hN] at h ⊢; exact h
 | .map (.loc _), _, _, _, hn, _ => by simp [eX] at hn
 | .map (.out _), _, _, h, _, hN => by simp only [ak, hN] at h ⊢; exact h
 | .win (.loc _) _ _ _, _, _, _, hn, _ => by simp [eX] at hn
 | .win (.out _) _ _ _, _, _, h, _, hN => by simp only [ak, hN] at h ⊢; exact h
 | .fn _ x y, _, _, h, hn, hN => by
  simp only [eX, Bool.and_eq_true] at hn
  simp only [ak] at h ⊢
  obtain ⟨h1, vs, us, e, h2, h3⟩ := h
  exact ⟨h1, vs, us, e, ag.vF (as := x) h2 hn.1 hN, ag.vF (as := y) h3 hn.2 hN⟩
 | .agg cs, _, _, h, hn, hN => by
  simp only [eX] at hn
  simp only [ak] at h ⊢
  obtain ⟨vs, e, h⟩ := h
  exact ⟨vs, e, ag.vF (as := cs) h hn hN⟩
 | .tup cs, _, _, h, hn, hN => by
  simp only [eX] at hn
  simp only [ak] at h ⊢
  obtain ⟨vs, e, h⟩ := h
  exact ⟨vs, e, ag.vF (as := cs) h hn hN⟩
 | .undef, _, _, h, _, _ => by simp only [ak] at h ⊢; exact h
theorem ag.vF : ∀ {as : List ac} {vs : List Value} {bs : List Nat}, ag w R N as vs bs -> bG as = true -> (∀ o, N' (.out o) = N (.out o)) -> ag w R N' as vs bs
 | [], _, _, h, _, _ => by simp only [ag] at h ⊢; exact h
 | a :: as, _, _, h, hn, hN => by
  simp only [bG, Bool.and_eq_true] at hn
  simp only [ag] at h ⊢
  obtain ⟨v, vs', b1, b2, e1, e2, h1, h2⟩ := h
  exact ⟨v, vs', b1, b2, e1, e2, ak.vF (a := a) h1 hn.1 hN, ag.vF (as := as) h2 hn.2 hN⟩
end
mutual
theorem ak.bU : ∀ {a : ac} {v : Value} {bs : List Nat}, ak w R (outs N) a v bs -> eX a = true
 | .dat _, _, _, _ => by simp [eX]
 | .own _, _, _, _ => by simp [eX]
 | .ref _, _, _, _ => by simp [eX]
 | .ptr (.loc _) _, _, _, h => by simp [ak, Tp.outs] at h
 | .ptr (.out _) _, _, _, _ => by simp [eX]
 | .map (.loc _), _, _, h => by simp [ak, Tp.outs] at h
 | .map (.out _), _, _, _ => by simp [eX]
 | .win (.loc _) _ _ _, _, _, h => by simp [ak, Tp.outs] at h
 | .win (.out _) _ _ _, _, _, _ => by simp [eX]
 | .fn _ x y, _, _, h => by
  simp only [ak] at h
  obtain ⟨h1, vs, us, e, h2, h3⟩ := h
  simp only [eX, Bool.and_eq_true]
  exact ⟨ag.bU (as := x) h2, ag.bU (as := y) h3⟩
 | .agg cs, _, _, h => by
  simp only [ak] at h
  obtain ⟨vs, e, h⟩ := h
  simpa only [eX] using ag.bU (as := cs) h
 | .tup cs, _, _, h => by
  simp only [ak] at h
  obtain ⟨vs, e, h⟩ := h
  simpa only [eX] using ag.bU (as := cs) h
 | .undef, _, _, _ => by simp [eX]
theorem ag.bU : ∀ {as : List ac} {vs : List Value} {bs : List Nat}, ag w R (outs N) as vs bs -> bG as = true
 | [], _, _, _ => by simp [bG]
 | a :: as, _, _, h => by
  simp only [ag] at h
  obtain ⟨v, vs', b1, b2, e1, e2, h1, h2⟩ := h
  simp only [bG, Bool.and_eq_true]
  exact ⟨ak.bU (a := a) h1, ag.bU (as := as) h2⟩
end
theorem ak.Hc {a : ac} {v : Value} {bs : List Nat} (h : ak w R N a v bs) (hn : eX a = true) : ak w R (outs N) a v bs := h.vF hn (fun _ => rfl)
theorem aQ.vF {o : aN} {b : Nat} {bs : List Nat} (h : aQ w R N o b bs) (hn : cT o = true) (hN : ∀ o, N' (.out o) = N (.out o)) : aQ w R N' o b bs := by
 cases o with
 | cells cs => obtain ⟨vs, e, sp, hb, hr, hR⟩ := h; exact ⟨vs, e, sp, hb, ag.vF hr (by rw [iq]; exact hn) hN, hR⟩
 | map es => exact h
theorem al.qW : ∀ {os : List (Name × aN)} {bs : List Nat}, al w R (Tp.outs N) os bs -> (∀ o, N' (.out o) = N (.out o)) -> al w R (Tp.outs N') os bs
 | [], _, h, _ => h
 |(n, o) :: os, _, ⟨b, b1, b2, e, hn, h1, h2⟩, hN => by
  refine ⟨b, b1, b2, e, ?_, ?_, al.qW h2 hN⟩
  ·cases n with
   | loc i => simp [Tp.outs] at hn
   | out k => simpa [Tp.outs, hN] using hn
  cases o with
  | cells cs =>
   obtain ⟨vs, e, sp, hb, hr, hR⟩ := h1
   exact ⟨vs, e, sp, hb, ag.vF hr hr.bU (by intro o; simp [Tp.outs, hN]), hR⟩
  | map es => exact h1
mutual
theorem ak.other {n : Name} : ∀ {a : ac} {v : Value} {bs : List Nat}, ak w R N a v bs -> mentions n a = false -> (∀ m, m ≠ n -> N' m = N m) -> ak w R N' a v bs
 | .dat _, _, _, h, _, _ => by simp only [ak] at h ⊢; exact h
 | .own _, _, _, h, _, _ => by simp only [ak] at h ⊢; exact h
 | .ref _, _, _, h, _, _ => by simp only [ak] at h ⊢; exact h
 | .ptr m _, _, _, h, hn, hN => by
  simp only [mentions, decide_eq_false_iff_not] at hn
  simp only [ak, hN m hn] at h ⊢; exact h
 | .map m, _, _, h, hn, hN => by
  simp only [mentions, decide_eq_false_iff_not] at hn
  simp only [ak, hN m hn] at h ⊢; exact h
 | .win m _ _ _, _, _, h, hn, hN => by
  simp only [mentions, decide_eq_false_iff_not] at hn
  simp only [ak, hN m hn] at h ⊢; exact h
 | .fn _ x y, _, _, h, hn, hN => by
  simp only [mentions, Bool.or_eq_false_iff] at hn
  simp only [ak] at h ⊢
  obtain ⟨h1, vs, us, e, h2, h3⟩ := h
  exact ⟨h1, vs, us, e, ag.other (as := x) h2 hn.1 hN, ag.other (as := y) h3 hn.2 hN⟩
 | .agg cs, _, _, h, hn, hN => by
  simp only [mentions] at hn
  simp only [ak] at h ⊢
  obtain ⟨vs, e, h⟩ := h
  exact ⟨vs, e, ag.other (as := cs) h hn hN⟩
 | .tup cs, _, _, h, hn, hN => by
  simp only [mentions] at hn
  simp only [ak] at h ⊢
  obtain ⟨vs, e, h⟩ := h
  exact ⟨vs, e, ag.other (as := cs) h hn hN⟩
 | .undef, _, _, h, _, _ => by simp only [ak] at h ⊢; exact h
theorem ag.other {n : Name} : ∀ {as : List ac} {vs : List Value} {bs : List Nat}, ag w R N as vs bs -> aV n as = false -> (∀ m, m ≠ n -> N' m = N m) -> ag w R N' as vs bs
 | [], _, _, h, _, _ => by simp only [ag] at h ⊢; exact h
 | a :: as, _, _, h, hn, hN => by
  simp only [aV, Bool.or_eq_false_iff] at hn
  simp only [ag] at h ⊢
  obtain ⟨v, vs', b1, b2, e1, e2, h1, h2⟩ := h
  exact ⟨v, vs', b1, b2, e1, e2, ak.other (a := a) h1 hn.1 hN, ag.other (as := as) h2 hn.2 hN⟩
end
theorem ag.nr {n : Name} (hN : ∀ m, m ≠ n -> N' m = N m) : ∀ {as : List ac} {vs : List Value} {bs : List Nat}, ag w R N as vs bs -> ∃ bs', ag w R N' (cQ n as) vs bs' /\ bs'.Sublist bs
 | [], _, _, h => by obtain ⟨rfl, rfl⟩ := ba h; exact ⟨[], aT, .refl _⟩
 | a :: as, _, _, h => by
  obtain ⟨v, vs', b1, b2, rfl, rfl, h1, h2⟩ := aD h
  obtain ⟨bs', g1, g2⟩ := ag.nr hN h2
  unfold cQ
  split
  ·exact ⟨[] ++ bs', aH (aP v) g1, by simpa using g2.trans (List.sublist_append_right b1 b2)⟩
  rename_i hm
  exact ⟨b1 ++ bs', aH (h1.other (by simpa using hm) hN) g1, List.Sublist.append (.refl _) g2⟩
theorem al.nr {n : Name} (hN : ∀ m, m ≠ n -> N' m = N m) : ∀ {os : List (Name × aN)} {bs : List Nat}, al w R N os bs -> ∃ bs', al w R N' (jR n os) bs' /\ bs'.Sublist bs
 | [], _, h => ⟨_, h, .refl _⟩
 |(m, .cells cs) :: os, _, ⟨b, b1, b2, e, hn, h1, h2⟩ => by
  subst e
  obtain ⟨bs', g1, g2⟩ := al.nr hN h2
  unfold jR
  split
  ·exact ⟨bs', g1, g2.trans ((List.sublist_append_right b1 b2).cons _)⟩
  rename_i hm
  obtain ⟨vs, el, sp, hb, hr, hR⟩ := h1
  obtain ⟨c1, k1, k2⟩ := ag.nr hN hr
  rw [Fq] at k1
  exact ⟨b :: (c1 ++ bs'), ⟨b, c1, bs', rfl, by rw [hN m hm]; exact hn, ⟨vs, el, sp, hb, k1, hR.1, fun h => hR.2 (EL h)⟩, g1⟩, (List.Sublist.append k2 g2).cons_cons _⟩
 |(m, .map es) :: os, _, ⟨b, b1, b2, e, hn, h1, h2⟩ => by
  subst e
  obtain ⟨bs', g1, g2⟩ := al.nr hN h2
  unfold jR
  split
  ·exact ⟨bs', g1, g2.trans ((List.sublist_append_right b1 b2).cons _)⟩
  rename_i hm
  exact ⟨b :: (b1 ++ bs'), ⟨b, b1, bs', rfl, by rw [hN m hm]; exact hn, h1, g1⟩, (List.Sublist.append (.refl _) g2).cons_cons _⟩
end
end Go.Tp
