/- The generic layer: what a seat that runs under variables needs. -/
import Derived.Test.YteanmfacikjjhaaGreatDoorTpFrun2
import Derived.Test.YteanmfacikjjhaaGreatDoorTpLast
namespace Go.Tp

/-- A call and its outcome. -/
structure Memo where
  fn : FuncId
  args : List AVal
  heap : Heap
  next : Nat
  res : XRes

def memoX : List Memo → XCalls
  | [] => fun _ _ _ _ => none
  | m :: l => fun g args heap next =>
    match Nat.beq m.fn g with
    | false => memoX l g args heap next
    | true => (match Nat.beq m.next next && eqAs m.args args && eqHs m.heap heap with
      | true => some m.res
      | false => memoX l g args heap next)

def orX (X Y : XCalls) : XCalls := fun g args heap next => match X g args heap next with | some r => some r | none => Y g args heap next

variable {P : Program} {G : Globs}
theorem memoX_ok : ∀ {l : List Memo}, (∀ m ∈ l, ACalls P G m.fn m.args m.heap m.next (XQ m.res)) → XOk P G (memoX l)
  | [], _ => by intro f args heap next r h; simp [memoX] at h
  | m :: l, hall => by
    intro f args heap next r h
    have ih := memoX_ok (l := l) fun m hm => hall m (by simp [hm])
    simp only [memoX] at h
    split at h
    · exact ih f args heap next r h
    · rename_i hf
      have hf := Nat.eq_of_beq_eq_true hf
      split at h
      · rename_i hc
        simp only [Bool.and_eq_true] at hc
        have h1 := Nat.eq_of_beq_eq_true hc.1.1
        have h2 := eqAs_spec hc.1.2
        have h3 := eqHs_spec hc.2
        subst hf; subst h1; subst h2; subst h3
        simp only [Option.some.injEq] at h
        subst h
        exact hall m (by simp)
      · exact ih f args heap next r h

theorem orX_ok {X Y : XCalls} (hX : XOk P G X) (hY : XOk P G Y) : XOk P G (orX X Y) := by
  intro f args heap next r h
  unfold orX at h
  split at h
  · rename_i r' hr
    simp only [Option.some.injEq] at h
    subst h
    exact hX _ _ _ _ _ hr
  · exact hY _ _ _ _ _ h
end Go.Tp
namespace Go.Tp

mutual
/-- Values that name no object. -/
def nmF : AVal → Bool
  | .dat _ => true
  | .own _ => true
  | .ref _ => true
  | .undef => true
  | .agg cs => nmFL cs
  | .tup cs => nmFL cs
  | .fn _ x y => nmFL x && nmFL y
  | .ptr _ _ => false
  | .map _ => false
  | .win _ _ _ _ => false
def nmFL : List AVal → Bool
  | [] => true
  | a :: r => nmF a && nmFL r
end

section
variable {w : World} {R : Own} {N N' : Name → Option Nat}
mutual
theorem RepV.nm : ∀ {a : AVal} {v : Value} {bs : List Nat}, RepV w R N a v bs → nmF a = true → RepV w R N' a v bs
  | .dat _, _, _, h, _ => by simp only [RepV] at h ⊢; exact h
  | .own _, _, _, h, _ => by simp only [RepV] at h ⊢; exact h
  | .ref _, _, _, h, _ => by simp only [RepV] at h ⊢; exact h
  | .ptr _ _, _, _, _, hn => by simp [nmF] at hn
  | .map _, _, _, _, hn => by simp [nmF] at hn
  | .win _ _ _ _, _, _, _, hn => by simp [nmF] at hn
  | .fn _ x y, _, _, h, hn => by
    simp only [nmF, Bool.and_eq_true] at hn
    simp only [RepV] at h ⊢
    obtain ⟨h1, vs, us, e, h2, h3⟩ := h
    exact ⟨h1, vs, us, e, RepVs.nm (l := x) h2 hn.1, RepVs.nm (l := y) h3 hn.2⟩
  | .agg cs, _, _, h, hn => by
    simp only [nmF] at hn
    simp only [RepV] at h ⊢
    obtain ⟨vs, e, h⟩ := h
    exact ⟨vs, e, RepVs.nm (l := cs) h hn⟩
  | .tup cs, _, _, h, hn => by
    simp only [nmF] at hn
    simp only [RepV] at h ⊢
    obtain ⟨vs, e, h⟩ := h
    exact ⟨vs, e, RepVs.nm (l := cs) h hn⟩
  | .undef, _, _, h, _ => by simp only [RepV] at h ⊢; exact h
theorem RepVs.nm : ∀ {l : List AVal} {vs : List Value} {bs : List Nat}, RepVs w R N l vs bs → nmFL l = true → RepVs w R N' l vs bs
  | [], _, _, h, _ => by simp only [RepVs] at h ⊢; exact h
  | a :: l, _, _, h, hn => by
    simp only [nmFL, Bool.and_eq_true] at hn
    simp only [RepVs] at h ⊢
    obtain ⟨v, vs', b1, b2, e1, e2, h1, h2⟩ := h
    exact ⟨v, vs', b1, b2, e1, e2, RepV.nm (a := a) h1 hn.1, RepVs.nm (l := l) h2 hn.2⟩
end
end

/-- A call that looks at no object, and its value. -/
structure PMemo where
  fn : FuncId
  args : List AVal
  val : AVal

def PMemo.ok (m : PMemo) : Bool := nmFL m.args && nmF m.val

def pmemoX : List PMemo → XCalls
  | [] => fun _ _ _ _ => none
  | m :: l => fun g args heap next =>
    match Nat.beq m.fn g with
    | false => pmemoX l g args heap next
    | true => (match eqAs m.args args with
      | true => some ⟨m.val, heap, next⟩
      | false => pmemoX l g args heap next)

variable {P : Program} {G : Globs}
theorem pure_frame {m : PMemo} (hm : m.ok = true) (h : ACalls P G m.fn m.args [] 0 (XQ ⟨m.val, [], 0⟩)) (heap : Heap) (next : Nat) : ACalls P G m.fn m.args heap next (XQ ⟨m.val, heap, next⟩) := by
  unfold PMemo.ok at hm
  simp only [Bool.and_eq_true] at hm
  intro w R N cargs bsA bsH bsF hargs hheap hnd hnx hglob hF
  have h2 := h w R (fun _ => none) cargs bsA [] (bsH ++ bsF) (hargs.nm hm.1) (by simp [RepObjs]) (by simpa using hnd) (by intro o b ho; simp at ho) hglob (by
    intro b hb
    rcases List.mem_append.1 hb with hb | hb
    · exact hheap.lt b hb
    · exact hF b hb)
  refine h2.mono ?_
  rintro e w' ⟨v, cv, heap', next', R', N', bsV, bsH', rfl, ⟨rfl, rfl, rfl⟩, hv, hh, hnd', _, hk, _⟩
  have hH' : bsH' = [] := by simpa [RepObjs] using hh
  subst hH'
  exact ⟨_, cv, heap, next, R', N, bsV, bsH, rfl, ⟨rfl, rfl, rfl⟩, hv.nm hm.2, hheap.keep (hk.sub (by intro b hb; simp [hb])), by simpa using hnd', hnx, hk.sub (by intro b hb; simp [hb]), fun _ _ h => h⟩

theorem pmemoX_ok : ∀ {l : List PMemo}, (∀ m ∈ l, m.ok = true ∧ ACalls P G m.fn m.args [] 0 (XQ ⟨m.val, [], 0⟩)) → XOk P G (pmemoX l)
  | [], _ => by intro f args heap next r h; simp [pmemoX] at h
  | m :: l, hall => by
    intro f args heap next r h
    have ih := pmemoX_ok (l := l) fun m hm => hall m (by simp [hm])
    simp only [pmemoX] at h
    split at h
    · exact ih f args heap next r h
    · rename_i hf
      have hf := Nat.eq_of_beq_eq_true hf
      split at h
      · rename_i hc
        have h2 := eqAs_spec hc
        subst hf
        subst h2
        simp only [Option.some.injEq] at h
        subst h
        obtain ⟨q1, q2⟩ := hall m (by simp)
        exact pure_frame q1 q2 heap next
      · exact ih f args heap next r h
end Go.Tp
namespace Go.Tp

mutual
def rnV (ρ : Nat → Nat) : AVal → AVal
  | .ptr (.out o) off => .ptr (.out (ρ o)) off
  | .map (.out o) => .map (.out (ρ o))
  | .win (.out o) s off len => .win (.out (ρ o)) s off len
  | .fn f a b => .fn f (rnL ρ a) (rnL ρ b)
  | .agg cs => .agg (rnL ρ cs)
  | .tup cs => .tup (rnL ρ cs)
  | a => a
def rnL (ρ : Nat → Nat) : List AVal → List AVal
  | [] => []
  | a :: r => rnV ρ a :: rnL ρ r
end
def rnO (ρ : Nat → Nat) : AObj → AObj
  | .cells cs => .cells (rnL ρ cs)
  | .map es => .map es
def rnN (ρ : Nat → Nat) : Name → Name
  | .out o => .out (ρ o)
  | m => m
def rnH (ρ : Nat → Nat) : Heap → Heap
  | [] => []
  | (m, o) :: r => (rnN ρ m, rnO ρ o) :: rnH ρ r

section
variable {w : World} {R : Own} {M M2 : Name → Option Nat} {ρ : Nat → Nat}
mutual
theorem RepV.rn (hL : ∀ i, M (.loc i) = none) (hM : ∀ o b, M (.out o) = some b → M2 (.out (ρ o)) = some b) : ∀ {a : AVal} {v : Value} {bs : List Nat}, RepV w R M a v bs → RepV w R M2 (rnV ρ a) v bs
  | .dat _, _, _, h => by simp only [rnV, RepV] at h ⊢; exact h
  | .own _, _, _, h => by simp only [rnV, RepV] at h ⊢; exact h
  | .ref _, _, _, h => by simp only [rnV, RepV] at h ⊢; exact h
  | .undef, _, _, h => by simp only [rnV, RepV] at h ⊢; exact h
  | .ptr (.loc i) _, _, _, h => by simp only [RepV] at h; obtain ⟨_, b, h2, _⟩ := h; rw [hL] at h2; simp at h2
  | .map (.loc i), _, _, h => by simp only [RepV] at h; obtain ⟨_, b, h2, _⟩ := h; rw [hL] at h2; simp at h2
  | .win (.loc i) _ _ _, _, _, h => by simp only [RepV] at h; obtain ⟨_, b, cap, h2, _⟩ := h; rw [hL] at h2; simp at h2
  | .ptr (.out o) off, _, _, h => by
    simp only [rnV, RepV] at h ⊢
    obtain ⟨h1, b, h2, h3⟩ := h
    exact ⟨h1, b, hM o b h2, h3⟩
  | .map (.out o), _, _, h => by
    simp only [rnV, RepV] at h ⊢
    obtain ⟨h1, b, h2, h3⟩ := h
    exact ⟨h1, b, hM o b h2, h3⟩
  | .win (.out o) s off len, _, _, h => by
    simp only [rnV, RepV] at h ⊢
    obtain ⟨h1, b, cap, h2, h3⟩ := h
    exact ⟨h1, b, cap, hM o b h2, h3⟩
  | .fn f a b, _, _, h => by
    simp only [rnV, RepV] at h ⊢
    obtain ⟨h1, vs, us, e, h2, h3⟩ := h
    exact ⟨h1, vs, us, e, RepVs.rn hL hM h2, RepVs.rn hL hM h3⟩
  | .agg cs, _, _, h => by
    simp only [rnV, RepV] at h ⊢
    obtain ⟨vs, e, h⟩ := h
    exact ⟨vs, e, RepVs.rn hL hM h⟩
  | .tup cs, _, _, h => by
    simp only [rnV, RepV] at h ⊢
    obtain ⟨vs, e, h⟩ := h
    exact ⟨vs, e, RepVs.rn hL hM h⟩
theorem RepVs.rn (hL : ∀ i, M (.loc i) = none) (hM : ∀ o b, M (.out o) = some b → M2 (.out (ρ o)) = some b) : ∀ {as : List AVal} {vs : List Value} {bs : List Nat}, RepVs w R M as vs bs → RepVs w R M2 (rnL ρ as) vs bs
  | [], _, _, h => by simp only [rnL, RepVs] at h ⊢; exact h
  | a :: r, _, _, h => by
    simp only [rnL, RepVs] at h ⊢
    obtain ⟨v, vs', b1, b2, e1, e2, h1, h2⟩ := h
    exact ⟨v, vs', b1, b2, e1, e2, RepV.rn hL hM h1, RepVs.rn hL hM h2⟩
end
/-! .. and back. -/
mutual
theorem RepV.rnBack {k : Nat} (hM : ∀ o b, o < k → M2 (.out (ρ o)) = some b → M (.out o) = some b) : ∀ {a : AVal} {v : Value} {bs : List Nat}, newV k a = false → RepV w R M2 (rnV ρ a) v bs → RepV w R M a v bs
  | .dat _, _, _, _, h => by simp only [rnV, RepV] at h ⊢; exact h
  | .own _, _, _, _, h => by simp only [rnV, RepV] at h ⊢; exact h
  | .ref _, _, _, _, h => by simp only [rnV, RepV] at h ⊢; exact h
  | .undef, _, _, _, h => by simp only [rnV, RepV] at h ⊢; exact h
  | .ptr (.loc _) _, _, _, hn, _ => by simp [newV] at hn
  | .map (.loc _), _, _, hn, _ => by simp [newV] at hn
  | .win (.loc _) _ _ _, _, _, hn, _ => by simp [newV] at hn
  | .ptr (.out o) off, _, _, hn, h => by
    simp only [newV] at hn
    have ho : o < k := by
      cases Nat.lt_or_ge o k with
      | inl h => exact h
      | inr h => rw [ble_mk h] at hn; simp at hn
    simp only [rnV, RepV] at h ⊢
    obtain ⟨h1, b, h2, h3⟩ := h
    exact ⟨h1, b, hM o b ho h2, h3⟩
  | .map (.out o), _, _, hn, h => by
    simp only [newV] at hn
    have ho : o < k := by
      cases Nat.lt_or_ge o k with
      | inl h => exact h
      | inr h => rw [ble_mk h] at hn; simp at hn
    simp only [rnV, RepV] at h ⊢
    obtain ⟨h1, b, h2, h3⟩ := h
    exact ⟨h1, b, hM o b ho h2, h3⟩
  | .win (.out o) s off len, _, _, hn, h => by
    simp only [newV] at hn
    have ho : o < k := by
      cases Nat.lt_or_ge o k with
      | inl h => exact h
      | inr h => rw [ble_mk h] at hn; simp at hn
    simp only [rnV, RepV] at h ⊢
    obtain ⟨h1, b, cap, h2, h3⟩ := h
    exact ⟨h1, b, cap, hM o b ho h2, h3⟩
  | .fn f a b, _, _, hn, h => by
    simp only [newV, Bool.or_eq_false_iff] at hn
    simp only [rnV, RepV] at h ⊢
    obtain ⟨h1, vs, us, e, h2, h3⟩ := h
    exact ⟨h1, vs, us, e, RepVs.rnBack hM hn.1 h2, RepVs.rnBack hM hn.2 h3⟩
  | .agg cs, _, _, hn, h => by
    simp only [newV] at hn
    simp only [rnV, RepV] at h ⊢
    obtain ⟨vs, e, h⟩ := h
    exact ⟨vs, e, RepVs.rnBack hM hn h⟩
  | .tup cs, _, _, hn, h => by
    simp only [newV] at hn
    simp only [rnV, RepV] at h ⊢
    obtain ⟨vs, e, h⟩ := h
    exact ⟨vs, e, RepVs.rnBack hM hn h⟩
theorem RepVs.rnBack {k : Nat} (hM : ∀ o b, o < k → M2 (.out (ρ o)) = some b → M (.out o) = some b) : ∀ {as : List AVal} {vs : List Value} {bs : List Nat}, newL k as = false → RepVs w R M2 (rnL ρ as) vs bs → RepVs w R M as vs bs
  | [], _, _, _, h => by simp only [rnL, RepVs] at h ⊢; exact h
  | a :: r, _, _, hn, h => by
    simp only [newL, Bool.or_eq_false_iff] at hn
    simp only [rnL, RepVs] at h ⊢
    obtain ⟨v, vs', b1, b2, e1, e2, h1, h2⟩ := h
    exact ⟨v, vs', b1, b2, e1, e2, RepV.rnBack hM hn.1 h1, RepVs.rnBack hM hn.2 h2⟩
end

theorem isP_rn (a : AVal) : isP (rnV ρ a) = isP a := by
  cases a with
  | ptr n off => cases n <;> rfl
  | map n => cases n <;> rfl
  | win n s off len => cases n <;> rfl
  | _ => rfl
theorem bldSh3 (a b c : AVal) (r : List AVal) : bldSh (a :: b :: c :: r) = false := by
  unfold bldSh
  split <;> rename_i h <;> first | rfl | simp at h
theorem bldSh_rn : ∀ (cs : List AVal), bldSh (rnL ρ cs) = bldSh cs
  | [] => rfl
  | [a] => by
    simp only [rnL]
    unfold bldSh
    split <;> rename_i h <;> simp at h
    rfl
  | [a, b] => by
    simp only [rnL]
    cases b with
    | ptr n off => cases n <;> rfl
    | map n => cases n <;> rfl
    | win n s off len => cases n <;> rfl
    | own es => simp only [rnV, bldSh, isP_rn]
    | dat d =>
      simp only [rnV]
      cases d with
      | slice es => simp only [bldSh, isP_rn]
      | agg es => rfl
      | flat v =>
        have h := isP_rn (ρ := ρ) a
        cases v with
        | slice p len cap =>
          cases p with
          | some _ => rfl
          | none =>
            cases len with
            | succ _ => rfl
            | zero =>
              cases cap with
              | succ _ => rfl
              | zero => exact h
        | _ => rfl
    | _ => rfl
  | a :: b :: c :: r => by
    simp only [rnL, bldSh3]
theorem rnL_append (l m : List AVal) : rnL ρ (l ++ m) = rnL ρ l ++ rnL ρ m := by
  induction l with
  | nil => rfl
  | cons a l ih => simp [rnL, ih]
theorem rnL_undef : ∀ k : Nat, rnL ρ (List.replicate k .undef) = List.replicate k .undef
  | 0 => rfl
  | k + 1 => by simp [List.replicate_succ, rnL, rnV, rnL_undef k]
theorem newL_undef (k : Nat) : ∀ j : Nat, newL k (List.replicate j .undef) = false
  | 0 => rfl
  | j + 1 => by simp [List.replicate_succ, newL, newV, newL_undef k j]

theorem RepObj.rn (hL : ∀ i, M (.loc i) = none) (hM : ∀ o b, M (.out o) = some b → M2 (.out (ρ o)) = some b) {o : AObj} {b : Nat} {bs : List Nat} (h : RepObj w R M o b bs) : RepObj w R M2 (rnO ρ o) b bs := by
  cases o with
  | map es => simp only [rnO, RepObj] at h ⊢; exact h
  | cells cs =>
    simp only [rnO, RepObj] at h ⊢
    obtain ⟨vs, elem, sp, h1, h2, h3, h4⟩ := h
    refine ⟨vs, elem, sp, h1, ?_, h3, by rw [bldSh_rn]; exact h4⟩
    have := RepVs.rn (ρ := ρ) hL hM (as := cs ++ List.replicate sp .undef) h2
    rwa [rnL_append, rnL_undef] at this
theorem RepObj.rnBack {k : Nat} (hM : ∀ o b, o < k → M2 (.out (ρ o)) = some b → M (.out o) = some b) {o : AObj} {b : Nat} {bs : List Nat} (hn : newO k o = false) (h : RepObj w R M2 (rnO ρ o) b bs) : RepObj w R M o b bs := by
  cases o with
  | map es => simp only [rnO, RepObj] at h ⊢; exact h
  | cells cs =>
    simp only [newO] at hn
    simp only [rnO, RepObj] at h ⊢
    obtain ⟨vs, elem, sp, h1, h2, h3, h4⟩ := h
    refine ⟨vs, elem, sp, h1, ?_, h3, by rw [bldSh_rn] at h4; exact h4⟩
    refine RepVs.rnBack (ρ := ρ) hM (as := cs ++ List.replicate sp .undef) (by rw [newL_append, hn, newL_undef]; rfl) ?_
    rw [rnL_append, rnL_undef]
    exact h2

/-- The names of the heap are below k. -/
def lowNames (k : Nat) : Heap → Bool
  | [] => true
  | (m, _) :: r => oldName k m && lowNames k r

theorem oldName_out {k : Nat} {m : Name} (h : oldName k m = true) : ∃ o, m = .out o ∧ o < k := by
  cases m with
  | loc i => simp [oldName] at h
  | out o => exact ⟨o, rfl, blt_to h⟩

theorem RepObjs.rn (hL : ∀ i, M (.loc i) = none) (hM : ∀ o b, M (.out o) = some b → M2 (.out (ρ o)) = some b) : ∀ {os : Heap} {bs : List Nat}, RepObjs w R M os bs → RepObjs w R M2 (rnH ρ os) bs
  | [], _, h => h
  | (.loc i, o) :: r, _, ⟨b, b1, b2, e, h1, h2, h3⟩ => by rw [hL] at h1; simp at h1
  | (.out m, o) :: r, _, ⟨b, b1, b2, e, h1, h2, h3⟩ => ⟨b, b1, b2, e, hM m b h1, h2.rn hL hM, RepObjs.rn hL hM h3⟩
theorem RepObjs.rnBack {k : Nat} (hM : ∀ o b, o < k → M2 (.out (ρ o)) = some b → M (.out o) = some b) : ∀ {os : Heap} {bs : List Nat}, lowNames k os = true → newHeap k os = false → RepObjs w R M2 (rnH ρ os) bs → RepObjs w R M os bs
  | [], _, _, _, h => h
  | (m, o) :: r, _, hl, hn, ⟨b, b1, b2, e, h1, h2, h3⟩ => by
    simp only [lowNames, Bool.and_eq_true] at hl
    simp only [newHeap, Bool.or_eq_false_iff] at hn
    obtain ⟨i, rfl, hi⟩ := oldName_out hl.1
    exact ⟨b, b1, b2, e, hM i b hi h1, h2.rnBack hM hn.1, RepObjs.rnBack hM hl.2 hn.2 h3⟩

theorem RepObjs.append : ∀ {os os2 : Heap} {bs : List Nat}, RepObjs w R M (os ++ os2) bs → ∃ b1 b2, bs = b1 ++ b2 ∧ RepObjs w R M os b1 ∧ RepObjs w R M os2 b2
  | [], os2, bs, h => ⟨[], bs, rfl, rfl, h⟩
  | (m, o) :: r, os2, bs, ⟨b, b1, b2, e, h1, h2, h3⟩ => by
    obtain ⟨c1, c2, e2, k1, k2⟩ := RepObjs.append h3
    subst e
    subst e2
    exact ⟨b :: (b1 ++ c1), c2, by simp, ⟨b, b1, c1, rfl, h1, h2, k1⟩, k2⟩
theorem RepObjs.join : ∀ {os os2 : Heap} {b1 b2 : List Nat}, RepObjs w R M os b1 → RepObjs w R M os2 b2 → RepObjs w R M (os ++ os2) (b1 ++ b2)
  | [], os2, b1, b2, h, k => by
    have h : b1 = [] := h
    subst h; exact k
  | (m, o) :: r, os2, _, b2, ⟨b, c1, c2, e, h1, h2, h3⟩, k => by
    subst e
    exact ⟨b, c1, c2 ++ b2, by simp, h1, h2, h3.join k⟩
theorem RepObjs.perm {os os2 : Heap} (hp : os.Perm os2) : ∀ {bs : List Nat}, RepObjs w R M os bs → ∃ bs', RepObjs w R M os2 bs' ∧ bs.Perm bs' := by
  induction hp with
  | nil => intro bs h; exact ⟨bs, h, .refl _⟩
  | cons x _ ih =>
    intro bs h
    obtain ⟨b, b1, b2, e, h1, h2, h3⟩ := h
    obtain ⟨bs', k1, k2⟩ := ih h3
    subst e
    exact ⟨b :: (b1 ++ bs'), ⟨b, b1, bs', rfl, h1, h2, k1⟩, (k2.append_left b1).cons b⟩
  | swap x y l =>
    intro bs h
    obtain ⟨b, b1, _, e, h1, h2, c, c1, c2, e2, k1, k2, k3⟩ := h
    subst e2
    subst e
    refine ⟨c :: (c1 ++ (b :: (b1 ++ c2))), ⟨c, c1, _, rfl, k1, k2, b, b1, c2, rfl, h1, h2, k3⟩, ?_⟩
    rw [← List.cons_append, ← List.cons_append, ← List.append_assoc, ← List.cons_append, ← List.cons_append, ← List.append_assoc]
    exact List.Perm.append_right _ List.perm_append_comm
  | trans _ _ ih1 ih2 =>
    intro bs h
    obtain ⟨b1, k1, k2⟩ := ih1 h
    obtain ⟨b2, k3, k4⟩ := ih2 k1
    exact ⟨b2, k3, k2.trans k4⟩
/-- Each name is one of the heap's. -/
def hasName (o : Nat) : Heap → Bool
  | [] => false
  | (.out m, _) :: r => Nat.beq m o || hasName o r
  | (.loc _, _) :: r => hasName o r
def allNames (h : Heap) : Nat → Bool
  | 0 => true
  | k + 1 => hasName k h && allNames h k
theorem RepObjs.named {o : Nat} : ∀ {os : Heap} {bs : List Nat}, hasName o os = true → RepObjs w R M (rnH ρ os) bs → ∃ b, M (.out (ρ o)) = some b
  | [], _, h, _ => by simp [hasName] at h
  | (.out m, x) :: r, _, h, ⟨b, b1, b2, e, h1, h2, h3⟩ => by
    simp only [hasName, Bool.or_eq_true] at h
    rcases h with h | h
    · have := Nat.eq_of_beq_eq_true h
      subst this
      exact ⟨b, h1⟩
    · exact RepObjs.named h h3
  | (.loc m, x) :: r, _, h, ⟨b, b1, b2, e, h1, h2, h3⟩ => RepObjs.named (os := r) (by simpa [hasName] using h) h3
theorem allNames_lt {h : Heap} : ∀ {k : Nat}, allNames h k = true → ∀ o, o < k → hasName o h = true
  | 0, _, _, ho => by omega
  | k + 1, hh, o, ho => by
    simp only [allNames, Bool.and_eq_true] at hh
    rcases Nat.lt_or_ge o k with h1 | h1
    · exact allNames_lt hh.2 o h1
    · have : o = k := by omega
      subst this; exact hh.1
end

/-- What stands below n0 as ρ says, the rest from d on. -/
def liftN (ρ : Nat → Nat) (n0 d o : Nat) : Nat := match Nat.blt o n0 with | true => ρ o | false => d + (o - n0)

variable {P : Program} {G : Globs}
/-- A contract, said of the objects that it is about, beside others and under other names. -/
theorem ACalls.frame {g : FuncId} {args0 : List AVal} {h0 : Heap} {n0 : Nat} {Q : AVal → Heap → Nat → Prop} (hc : ACalls P G g args0 h0 n0 Q) (ρ : Nat → Nat) {heap rest : Heap} {next : Nat}
    (hp : heap.Perm (rnH ρ h0 ++ rest)) (hlow : lowNames n0 h0 = true) (hnew : newHeap n0 h0 = false) (hall : allNames h0 n0 = true) (ha : newL n0 args0 = false) :
    ACalls P G g (rnL ρ args0) heap next (fun v h m => ∃ v0 h1 n1, Q v0 h1 n1 ∧ v = rnV (liftN ρ n0 next) v0 ∧ h = rnH (liftN ρ n0 next) h1 ++ rest ∧ m = next + (n1 - n0)) := by
  intro w R N cargs bsA bsH bsF hargs hheap hnd hnx hglob hF
  obtain ⟨bsP, hP, pP⟩ := hheap.perm hp
  obtain ⟨b1, b2, e, h1, h2⟩ := RepObjs.append hP
  subst e
  let N0 : Name → Option Nat := fun m => match m with | .loc _ => none | .out o => if o < n0 then N (.out (ρ o)) else none
  have hback : ∀ o b, o < n0 → outs N (.out (ρ o)) = some b → outs N0 (.out o) = some b := by
    intro o b ho hb
    simp only [outs] at hb ⊢
    simp only [N0]
    rw [if_pos ho]; exact hb
  have hnd1 : (bsA ++ (b1 ++ (b2 ++ bsF))).Nodup := by
    refine (List.Perm.nodup_iff ?_).1 hnd
    rw [← List.append_assoc b1]
    exact List.Perm.append_left _ (List.Perm.append_right _ pP)
  have h3 := hc w R N0 cargs bsA b1 (b2 ++ bsF) (hargs.rnBack hback ha) (h1.rnBack hback hlow hnew) hnd1 (by
    intro o b ho
    simp only [N0] at ho
    split at ho
    · assumption
    · simp at ho) hglob (by
    intro b hb
    rcases List.mem_append.1 hb with hb | hb
    · exact h2.lt b hb
    · exact hF b hb)
  refine h3.mono ?_
  rintro e w' ⟨v0, cv, h1', n1, R', N1, bsV, bsH', rfl, hq, hv, hh, hnd', hnx', hk, hN⟩
  let N2 : Name → Option Nat := fun m => match m with | .loc i => N (.loc i) | .out x => if x < next then N (.out x) else N1 (.out (x - next + n0))
  have hfwd : ∀ o b, outs N1 (.out o) = some b → outs N2 (.out (liftN ρ n0 next o)) = some b := by
    intro o b hb
    simp only [outs] at hb ⊢
    unfold liftN
    cases hlt : Nat.blt o n0 with
    | true =>
      have ho := blt_to hlt
      dsimp only
      obtain ⟨b', hb'⟩ := RepObjs.named (M := outs N) (ρ := ρ) (allNames_lt hall o ho) h1
      simp only [outs] at hb'
      have h4 : N0 (.out o) = some b' := by simp only [N0]; rw [if_pos ho]; exact hb'
      have h5 := hN o b' h4
      rw [hb] at h5
      simp only [N2]
      rw [if_pos (hnx _ _ hb'), hb', h5]
    | false =>
      dsimp only
      have ho : ¬ o < n0 := fun h => by rw [← Nat.blt_eq, hlt] at h; simp at h
      simp only [N2]
      rw [if_neg (by omega), show next + (o - n0) - next + n0 = o by omega]
      exact hb
  have hloc : ∀ i, outs N1 (.loc i) = none := fun i => rfl
  refine ⟨_, cv, _, _, R', N2, bsV, bsH' ++ b2, rfl, ⟨v0, h1', n1, hq, rfl, rfl, rfl⟩, hv.rn hloc hfwd, (hh.rn hloc hfwd).join ?_, by simpa using hnd', ?_, hk.sub (by intro b hb; simp [hb]), ?_⟩
  · have h5 := h2.keep (hk.sub (by intro b hb; simp [hb]))
    refine h5.ext ?_
    intro m b hm
    cases m with
    | loc i => simp [outs] at hm
    | out x =>
      simp only [outs] at hm ⊢
      simp only [N2]
      rw [if_pos (hnx x b hm)]; exact hm
  · intro x b hx
    simp only [N2] at hx
    split at hx
    · omega
    · have := hnx' _ _ hx
      omega
  · intro x b hx
    simp only [N2]
    rw [if_pos (hnx x b hx)]; exact hx

/-- Without the first of that name. -/
def del1 (k : Name) : Heap → Heap
  | [] => []
  | (m, o) :: r => match nameB m k with | true => r | false => (m, o) :: del1 k r
/-- The objects of those names, and the rest. -/
def gotH : List Nat → Heap → Heap
  | [], _ => []
  | p :: ps, h => (match agetF (.out p) h with | some o => (.out p, o) :: gotH ps (del1 (.out p) h) | none => [(.loc 0, .cells [])])
def restH : List Nat → Heap → Heap
  | [], h => h
  | p :: ps, h => restH ps (del1 (.out p) h)
theorem aget_perm {k : Name} {o : AObj} : ∀ {h : Heap}, agetF k h = some o → h.Perm ((k, o) :: del1 k h)
  | [], h => by simp [agetF] at h
  | (m, x) :: r, h => by
    unfold agetF at h
    unfold del1
    split at h
    · rename_i hm
      rw [hm]
      have := (nameB_iff _ _).1 hm
      subst this
      simp at h
      subst h
      exact .refl _
    · rename_i hm
      rw [hm]
      exact ((aget_perm h).cons _).trans (.swap _ _ _)
def noLocs : Heap → Bool
  | [] => true
  | (.out _, _) :: r => noLocs r
  | (.loc _, _) :: _ => false
theorem got_perm : ∀ {ps : List Nat} {h : Heap}, noLocs (gotH ps h) = true → h.Perm (gotH ps h ++ restH ps h)
  | [], h, _ => .refl _
  | p :: ps, h, hn => by
    simp only [gotH] at hn ⊢
    simp only [restH]
    split at hn
    · rename_i o ho
      simp only [noLocs] at hn
      exact (aget_perm ho).trans ((got_perm hn).cons _)
    · simp [noLocs] at hn

/-- The names by a list. -/
def rhoL : List Nat → Nat → Nat
  | [], o => o
  | p :: _, 0 => p
  | _ :: ps, o + 1 => rhoL ps o

def fitsF (args0 : List AVal) (h0 : Heap) (n0 : Nat) : Bool := lowNames n0 h0 && !newHeap n0 h0 && allNames h0 n0 && !newL n0 args0

def namesH : Heap → List Nat
  | [] => []
  | (.out m, _) :: r => m :: namesH r
  | (.loc _, _) :: r => namesH r
/-- Newer objects first. -/
def keyN : Name → Nat
  | .out m => m
  | .loc _ => 0
def insH (x : Name × AObj) : Heap → Heap
  | [] => [x]
  | y :: r => match Nat.blt (keyN x.1) (keyN y.1) with | true => y :: insH x r | false => x :: y :: r
def sortH : Heap → Heap
  | [] => []
  | x :: r => insH x (sortH r)
theorem insH_perm (x : Name × AObj) : ∀ l : Heap, (insH x l).Perm (x :: l)
  | [] => .refl _
  | y :: r => by
    simp only [insH]
    split
    · exact ((insH_perm x r).cons y).trans (.swap x y r)
    · exact .refl _
theorem sortH_perm : ∀ l : Heap, (sortH l).Perm l
  | [] => .refl _
  | x :: r => by
    simp only [sortH]
    exact (insH_perm x _).trans ((sortH_perm r).cons x)
theorem ACalls.sorted {g : FuncId} {args : List AVal} {heap : Heap} {next : Nat} {Q : AVal → Heap → Nat → Prop} (h : ACalls P G g args heap next Q) : ACalls P G g args heap next (fun v h m => ∃ h1, Q v h1 m ∧ h = sortH h1) := by
  intro w R N cargs bsA bsH bsF ha hh hnd hnx hg hF
  refine (h w R N cargs bsA bsH bsF ha hh hnd hnx hg hF).mono ?_
  rintro e w' ⟨v, cv, h1, next', R', N', bsV, bsH', rfl, hq, hv, hh', hnd', hnx', hk, hN⟩
  obtain ⟨bs2, k1, k2⟩ := hh'.perm (sortH_perm h1).symm
  refine ⟨v, cv, sortH h1, next', R', N', bsV, bs2, rfl, ⟨h1, hq, rfl⟩, hv, k1, ?_, hnx', hk, hN⟩
  exact (List.Perm.nodup_iff (List.Perm.append_left _ (List.Perm.append_right _ k2))).1 hnd'

theorem ACalls.at {g : FuncId} {args0 : List AVal} {h0 : Heap} {n0 : Nat} {Q : AVal → Heap → Nat → Prop} (hc : ACalls P G g args0 h0 n0 Q) (hf : fitsF args0 h0 n0 = true) (ps : List Nat) {args : List AVal} {heap : Heap} {next : Nat}
    (he : args = rnL (rhoL ps) args0) (hg : gotH (namesH (rnH (rhoL ps) h0)) heap = rnH (rhoL ps) h0) (hn : noLocs (gotH (namesH (rnH (rhoL ps) h0)) heap) = true) :
    ACalls P G g args heap next (fun v h m => ∃ v0 h1 n1, Q v0 h1 n1 ∧ v = rnV (liftN (rhoL ps) n0 next) v0 ∧ h = sortH (rnH (liftN (rhoL ps) n0 next) h1 ++ restH (namesH (rnH (rhoL ps) h0)) heap) ∧ m = next + (n1 - n0)) := by
  unfold fitsF at hf
  simp only [Bool.and_eq_true, Bool.not_eq_true'] at hf
  obtain ⟨⟨⟨f1, f2⟩, f3⟩, f4⟩ := hf
  subst he
  have hp := got_perm hn
  have hp2 : heap.Perm (rnH (rhoL ps) h0 ++ restH (namesH (rnH (rhoL ps) h0)) heap) := by
    have e : gotH (namesH (rnH (rhoL ps) h0)) heap ++ restH (namesH (rnH (rhoL ps) h0)) heap = rnH (rhoL ps) h0 ++ restH (namesH (rnH (rhoL ps) h0)) heap := congrArg (· ++ _) hg
    rw [← e]; exact hp
  refine (hc.frame (rhoL ps) hp2 f1 f2 f3 f4).sorted.mono ?_
  rintro v h m ⟨h1, ⟨v0, h2, n1, hq, rfl, rfl, rfl⟩, rfl⟩
  exact ⟨v0, h2, n1, hq, rfl, rfl, rfl⟩
end Go.Tp
namespace Go.Tp

section
variable {X : XCalls} {E : TEnv} {G : Globs} {H : Hints} {n : Nat}

/-- An operation that changes nothing but a slot. -/
theorem fone_keep {all : List Oper} {o : Oper} {f f1 : FState} {vals : List AVal} {ob : Option AObj} {v : AVal} (hw : fwanted n all f o.guard = some true) (hc : isCall o.op = none)
    (ha : fargs G n f (mvQ (readOnly H.moves all o) o.op) 0 (opsL o.op) = vals) (hl : flooked f o.op vals = ob) (hd : fdrop n f (mvQ (readOnly H.moves all o) o.op) (opsL o.op) = f1) (hop : aop E (takeR H all o) o.op vals ob = some ⟨v, .keep⟩) :
    fone X E G H n all o f = some (fput f1 o.dst v) := by
  unfold fone
  rw [hw]
  dsimp only
  rw [hc]
  dsimp only
  unfold fstep fstep1
  rw [ha, hl, hop, hd]
  rfl

/-- An operation that sets the object that it looks at. -/
theorem fone_set {all : List Oper} {o : Oper} {f f1 f2 : FState} {vals : List AVal} {k : Name} {ob : Option AObj} {v : AVal} {o' : AObj} (hw : fwanted n all f o.guard = some true) (hc : isCall o.op = none)
    (ha : fargs G n f (mvQ (readOnly H.moves all o) o.op) 0 (opsL o.op) = vals) (hk : looks o.op vals = some k) (hl : flooked f o.op vals = ob) (hd : fdrop n f (mvQ (readOnly H.moves all o) o.op) (opsL o.op) = f1) (hop : aop E (takeR H all o) o.op vals ob = some ⟨v, .set o'⟩)
    (hs : fsetObj f1 k o' = some f2) : fone X E G H n all o f = some (fput f2 o.dst v) := by
  unfold fone
  rw [hw]
  dsimp only
  rw [hc]
  dsimp only
  unfold fstep fstep1
  rw [ha, hl, hop, hd, hk]
  show (match fsetObj f1 k o' with | some f => some (fput f o.dst v) | none => none) = _
  rw [hs]

theorem fops_cons {all : List Oper} {o : Oper} {r : List Oper} {f f1 : FState} (h : fone X E G H n all o f = some f1) : fops X E G H n all (o :: r) f = fops X E G H n all r f1 := by
  have e : fops X E G H n all (o :: r) f = (match fone X E G H n all o f with | some f' => fops X E G H n all r f' | none => none) := rfl
  rw [e, h]

theorem fregion_ops {live : Nat → Nat} {fuel : Nat} {id : Nat} {ops : Array Oper} {f f1 : FState} (hg : Nat.beq (Nat.shiftRight (live id) 4096) 0 = true) (h : fops X E G (H.at id) n ops.toList ops.toList f = some f1) :
    fcode X E G H n live fuel (.region id ops false) f = some (.normal, fprune f1 (fun l => pruneS l (live id))) := by
  rw [fcode_region]
  dsimp only
  rw [h]
  dsimp only
  unfold fghost
  rw [hg]

/-- An operation that goes ahead. -/
theorem fstepQ_val {fh : Bool} {all : List Oper} {o : Oper} {f : FState} {vals : List AVal} {ob : Option AObj} {v : AVal} (hw : fwanted n all f o.guard = some true) (hal : isAlloc o.op = false) (hc : isCall o.op = none) (hq : quietKind o.op = true)
    (ha : fargs G n f none 0 (opsL o.op) = vals) (hp : lookPure fh (looks o.op vals) = true) (hl : flooked f o.op vals = ob) (hop : aop E false o.op vals ob = some ⟨v, .keep⟩) : fstepQ E G n fh all o f = some v := by
  unfold fstepQ
  rw [hw]
  dsimp only
  rw [if_pos rfl, hal, hc, ha, hl, hop]
  simp [hq, hp]

theorem ford_quiet {tk : List Nat} {fh : Bool} {fq : Nat → Bool} {all : List Oper} {i : Nat} {r : List (Nat × Bool)} {o : Oper} {f : FState} {a : AVal} (ho : all[i]? = some o) (h : fstepQ E G n (fh || fq i) all o f = some a) :
    ford X E G H n tk fh fq all ((i, false) :: r) f = ford X E G H n tk fh fq all r (fput f o.dst a) := by
  have e : ford X E G H n tk fh fq all ((i, false) :: r) f = (match all[i]? with
    | none => none
    | some o => (match fstepQ E G n (fh || fq i) all o f with
        | some a => ford X E G H n tk fh fq all r (fput f o.dst a)
        | none => none)) := rfl
  rw [e, ho]
  dsimp only
  rw [h]

theorem fdraw_of {all : List Oper} {h : RHint} {f f1 f2 : FState} (hx : explMark h = false) (hlm : loneMark h = false) (h1 : ford X E G H n h.tk (quietHeap H all h.pre) (quietAt H all h.pre) all h.pre f = some f1) (h2 : fshowMk E n all h.nw f1 = some f2) :
    fdraw X E G H n all h f = fops X E G H n all (pickOps all h.tail) f2 := by
  unfold fdraw
  rw [hx]
  dsimp only
  rw [hlm]
  dsimp only
  rw [h1]
  dsimp only
  rw [h2]

theorem fregion_draw {live : Nat → Nat} {fuel : Nat} {id : Nat} {ops : Array Oper} {f f1 : FState} (hg : Nat.beq (Nat.shiftRight (live id) 4096) 0 = true) (h : fdraw X E G H n ops.toList (H.ord id) f = some f1) :
    fcode X E G H n live fuel (.region id ops true) f = some (.normal, fprune f1 (fun l => pruneS l (live id))) := by
  rw [fcode_region]
  dsimp only
  rw [h]
  dsimp only
  unfold fghost
  rw [hg]

theorem idx_dat {t : TypeId} {ti : TI} {es : List Dat} {i : Int} {d : Dat} (he : elemOf E t = some ti) (hel : E.pr.elt es i = some d) (hs : d.cells.length = ti.size) (h0 : 0 < ti.size) :
    aIndexAddr E t (nzL [.dat (.slice es), .dat (.flat (.int .i64 i))]) = some ⟨.ref d.cells, .keep⟩ := by
  simp only [nzL, nz, aIndexAddr, he, hel]
  rw [if_pos ⟨hs, h0⟩]

theorem fops_append {all : List Oper} {b : List Oper} : ∀ {a : List Oper} {f f1 : FState}, fops X E G H n all a f = some f1 → fops X E G H n all (a ++ b) f = fops X E G H n all b f1
  | [], f, f1, h => by
    have e : fops X E G H n all [] f = some f := rfl
    rw [e] at h; simp at h; subst h; rfl
  | o :: r, f, f1, h => by
    have e : fops X E G H n all (o :: r) f = (match fone X E G H n all o f with | some f' => fops X E G H n all r f' | none => none) := rfl
    rw [e] at h
    split at h
    · rename_i f' hf
      rw [List.cons_append, fops_cons hf]
      exact fops_append h
    · simp at h

theorem ford_append {tk : List Nat} {fh : Bool} {fq : Nat → Bool} {all : List Oper} {b : List (Nat × Bool)} : ∀ {a : List (Nat × Bool)} {f f1 : FState}, ford X E G H n tk fh fq all a f = some f1 → ford X E G H n tk fh fq all (a ++ b) f = ford X E G H n tk fh fq all b f1
  | [], f, f1, h => by
    have e : ford X E G H n tk fh fq all [] f = some f := rfl
    rw [e] at h; simp at h; subst h; rfl
  | (i, lone) :: r, f, f1, h => by
    rw [ford_cons] at h
    rw [List.cons_append, ford_cons]
    cases ho : all[i]? with
    | none => rw [ho] at h; simp at h
    | some o =>
      rw [ho] at h
      cases lone with
      | true =>
        dsimp only at h ⊢
        cases hf : fopL X E G H n fh tk all o f with
        | none => rw [hf] at h; simp at h
        | some f' => rw [hf] at h; exact ford_append h
      | false =>
        dsimp only at h ⊢
        cases hf : fstepQ E G n (fh || fq i) all o f with
        | none => rw [hf] at h; simp at h
        | some a => rw [hf] at h; exact ford_append h

/-- An element of a row. -/
theorem idx_win {t : TypeId} {ti : TI} {m : Name} {s off len k : Nat} (he : elemOf E t = some ti) (hs : s = ti.size) (hk : k < len) :
    aIndexAddr E t [.win m s off len, .dat (.flat (.int .i64 (Int.ofNat k)))] = some ⟨.ptr m (off + k * s), .keep⟩ := by
  have h1 : Nat.blt k len = true := by rw [Nat.blt_eq]; exact hk
  have h2 : Nat.beq s ti.size = true := by rw [Nat.beq_eq]; exact hs
  simp only [aIndexAddr, he, h1, h2]
  simp

theorem load_flat {t : TypeId} {i : TI} {m : Name} {off : Nat} {cs : List AVal} {v : Value} {take : Bool} (ht : E.ty t = some i) (ha : i.isAgg = false) (h : cs[off]? = some (.dat (.flat v))) :
    aLoad E take t [.ptr m off] (some (.cells cs)) = some ⟨.dat (.flat v), .keep⟩ := by
  cases take <;> simp [aLoad, ht, loadCells, ha, h, ofA]

theorem store_flat {t : TypeId} {i : TI} {m : Name} {off : Nat} {cs : List AVal} {v : Value} (ht : E.ty t = some i) (hs : i.size = 1) (h : off < cs.length) (hb : bldSh (putL off [.dat (.flat v)] cs) = false) :
    aStore E t [.ptr m off, .dat (.flat v)] (some (.cells cs)) = some ⟨.undef, .set (.cells (putL off [.dat (.flat v)] cs))⟩ := by
  simp only [aStore, ht]
  rw [if_pos]
  · rfl
  · refine ⟨by rw [hs]; rfl, by rw [hs]; exact h, rfl, by rw [hs]; decide, ?_⟩
    show (!bldSh (putL off [.dat (.flat v)] cs) || bldSh cs) = true
    rw [hb]; rfl

/-! ### Rounds of a loop -/
theorem floop_rounds {body : FState → Option (Exit × FState)} {S : Nat → FState} {m fuel : Nat} (hb : ∀ i, i < m → body (S i) = some (.normal, S (i + 1))) (hm : m ≤ fuel) :
    ∀ i, i ≤ m → floop body (fuel - i) (S i) = floop body (fuel - m) (S m) := by
  intro i hi
  obtain ⟨d, rfl⟩ : ∃ d, m = i + d := ⟨m - i, by omega⟩
  clear hi
  induction d generalizing i with
  | zero => rfl
  | succ d ih =>
    have hs := hb i (by omega)
    obtain ⟨k, hk⟩ : ∃ k, fuel - i = k + 1 := ⟨fuel - i - 1, by omega⟩
    rw [hk, floop_step hs]
    have := ih (i + 1) (by rw [show i + 1 + d = i + (d + 1) by omega]; exact hb) (by omega)
    rw [show fuel - (i + 1) = k by omega, show i + 1 + d = i + (d + 1) by omega] at this
    exact this

/-- What the quick run reads of a slice. -/
theorem fast_elt {es : List Dat} {i : Nat} {d : Dat} (h : es[i]? = some d) : Prims.fast.elt es (Int.ofNat i) = some d := by
  show getF es i = some d
  rw [getF_eq]; exact h
end
end Go.Tp
namespace Go.Tp

/-- A run, up to where it asks. -/
inductive Qy (α : Type) : Type where
  | fin (a : α)
  | fail
  /-- which truth value is this? -/
  | bool (t : Nat) (b : Bool) (k : Bool → Qy α)
  /-- what does this operation give? -/
  | out (t : Nat) (o : Option Out) (k : Out → Qy α)
  /-- what does this call give? -/
  | res (g : FuncId) (args : List AVal) (heap : Heap) (next : Nat) (k : XRes → Qy α)
  /-- do the objects stay? -/
  | stay (h h' : Heap) (k : Qy α)
  /-- how does this loop end? -/
  | loop (n : Nat) (c : Code) (f : FState) (k : Exit × FState → Qy α)
  /-- both orders -/
  | both (a b : Qy α)

section
variable (P : Program) (G : Globs) {α : Type} (T : α → Prop)
def Qy.Ok : Qy α → Prop
  | .fin a => T a
  | .fail => False
  | .bool _ b k => (k b).Ok
  | .out _ o k => ∃ x, o = some x ∧ (k x).Ok
  | .res g args heap next k => ACalls P G g args heap next (fun v h m => bndV v → bndO h → (k ⟨v, h, m⟩).Ok)
  | .stay h h' k => Stays h h' ∧ k.Ok
  | .loop n c f k => ACode P G (.loop c) (fun e s => ∃ f', s = f'.toA n ∧ (k (e, f')).Ok) (f.toA n)
  | .both a b => a.Ok ∧ b.Ok
end

/-! ### The run -/
/-- What an operation is asked by. -/
def opKey (o : Oper) : Nat :=
  match o.dst with
  | some t => t
  | none => (match o.op with
    | .store _ (.tmp u) _ => 100000 + u
    | .mapUpdate _ (.tmp u) _ _ => 100000 + u
    | .insert _ (.tmp u) _ _ => 100000 + u
    | .call c => (match c.args.toList with | .tmp u :: _ => 100000 + u | _ => 0)
    | _ => 0)

section
variable {α : Type} (A B : Nat → Bool) (E : TEnv) (G : Globs) (H : Hints) (n : Nat)

noncomputable def qask (d : Option Tmp) (f : FState) (k : FState → Qy α) : Qy α :=
  match d with
  | none => k f
  | some t => (match A t with
    | true => (match fget n f t with
      | .dat (.flat (.bool b)) => .bool t b (fun b => k (fput f (some t) (.dat (.flat (.bool b)))))
      | _ => k f)
    | false => k f)

noncomputable def qstep (q take : Bool) (o : Oper) (f : FState) (k : FState → Qy α) : Qy α :=
  match B (opKey o) with
  | true => .out (opKey o) (aop E take o.op (fargs G n f (mvQ q o.op) 0 (opsL o.op)) (flooked f o.op (fargs G n f (mvQ q o.op) 0 (opsL o.op))))
      (fun out => match fstepOut o (looks o.op (fargs G n f (mvQ q o.op) 0 (opsL o.op))) (fdrop n f (mvQ q o.op) (opsL o.op)) out with
        | some f' => qask A n o.dst f' k
        | none => .fail)
  | false => (match fstep E G n q take o f with
    | some f' => qask A n o.dst f' k
    | none => .fail)

noncomputable def qone (all : List Oper) (o : Oper) (f : FState) (k : FState → Qy α) : Qy α :=
  match fwanted n all f o.guard with
  | none => .fail
  | some b => match b with
    | true =>
      (match isCall o.op with
       | some c => (match fcallee E G H n c f with
         | some (g, args, f2) => .res g args f2.heap f2.next (fun r => qask A n o.dst (fback f2 r o.dst) k)
         | none => .fail)
       | none => qstep A B E G n (readOnly H.moves all o) (takeR H all o) o f k)
    | false => k (fput f o.dst (.tup []))

noncomputable def qops (all : List Oper) (ops : List Oper) : FState → (FState → Qy α) → Qy α :=
  @List.rec Oper (fun _ => FState → (FState → Qy α) → Qy α) (fun f k => k f) (fun o _ ih f k => qone A B E G H n all o f (fun f' => ih f' k)) ops

noncomputable def qopL (fh : Bool) (tk : List Nat) (all : List Oper) (o : Oper) (f : FState) (k : FState → Qy α) : Qy α :=
  match fwanted n all f o.guard with
  | none => .fail
  | some b => match b with
    | true =>
      (match isCall o.op with
       | some c => (match fcalleeD E G H n c f with
         | some (g, args, f2) => (match isPure H o with
           | true => .res g args [] f2.next (fun r => match r with
             | ⟨v, [], m⟩ => qask A n o.dst (fback f2 ⟨v, f2.heap, m⟩ o.dst) k
             | _ => .fail)
           | false => .res g args f2.heap f2.next (fun r => match isRead H o with
             | true => .stay f2.heap r.heap (qask A n o.dst (fback f2 r o.dst) k)
             | false => qask A n o.dst (fback f2 r o.dst) k))
         | none => .fail)
       | none => (match appSlot o.op with
         | some t => (match fshowTk n fh all (tkFor all t (ftkNil n tk t f)) f with
           | some f1 => qstep A B E G n false false o f1 k
           | none => .fail)
         | none => (match isStore o.op with
           | true => qstep A B E G n (readOnly H.moves all o) (takeR H all o) o f k
           | false => .fail)))
    | false => k (fput f o.dst (.tup []))

/-- A quiet operation's value. -/
noncomputable def qstepQ (fh : Bool) (all : List Oper) (o : Oper) (f : FState) (k : AVal → Qy α) : Qy α :=
  match B (opKey o) with
  | true => (match fwanted n all f o.guard with
    | none => .fail
    | some b => match b with
      | true => (match isAlloc o.op with
        | true => (match aop E false o.op [] none with | some _ => k .undef | none => .fail)
        | false => (match isCall o.op with
          | some _ => .fail
          | none => (match quietKind o.op && lookPure fh (looks o.op (fargs G n f none 0 (opsL o.op))) with
            | true => .out (opKey o) (aop E false o.op (fargs G n f none 0 (opsL o.op)) (flooked f o.op (fargs G n f none 0 (opsL o.op)))) (fun out => match out with | ⟨v, .keep⟩ => k v | _ => .fail)
            | false => .fail)))
      | false => k (.tup []))
  | false => (match fstepQ E G n fh all o f with
    | some a => k a
    | none => .fail)

noncomputable def qord (tk : List Nat) (fh : Bool) (fq : Nat → Bool) (all : List Oper) (l : List (Nat × Bool)) : FState → (FState → Qy α) → Qy α :=
  @List.rec (Nat × Bool) (fun _ => FState → (FState → Qy α) → Qy α) (fun f k => k f) (fun p _ ih f k =>
    match all[p.1]? with
    | none => .fail
    | some o => match p.2 with
      | true => qopL A B E G H n fh tk all o f (fun f' => ih f' k)
      | false => qstepQ B E G n (fh || fq p.1) all o f (fun a => qask A n o.dst (fput f o.dst a) (fun f' => ih f' k))) l

def qboth (F : Nat → Qy α) : Nat → List Nat → Qy α
  | i, [] => F i
  | i, j :: l => .both (F i) (qboth F j l)

noncomputable def qexpl (all : List Oper) : Nat → Array Bool → FState → (FState → Qy α) → Qy α
  | 0, listed, f, k => (match Region.ready .any all.toArray listed with
    | [] => k f
    | _ => .fail)
  | m + 1, listed, f, k => (match Region.ready .any all.toArray listed with
    | [] => k f
    | i :: l => qboth (fun i => match all[i]? with
      | some o => qone A B E G H n all o f (fun f' => qexpl all m (setL listed i) f' k)
      | none => .fail) i l)

noncomputable def qlone (h : RHint) (all : List Oper) (p : Array Bool) : Nat → Array Bool → FState → (FState → Qy α) → Qy α
  | 0, listed, f, k => (match eqBs listed.toList p.toList with
    | true => k f
    | false => .fail)
  | m + 1, listed, f, k => (match eqBs listed.toList p.toList with
    | true => .fail
    | false => (match Region.ready .any all.toArray listed with
      | [] => .fail
      | i :: l => qboth (fun i => match h.pre.contains (i, true) with
        | true => (match all[i]? with
          | some o => qopL A B E G H n (quietHeap H all h.pre) h.tk all o f (fun f' => qlone h all p m (setL listed i) f' k)
          | none => .fail)
        | false => .fail) i l))

noncomputable def qdraw (all : List Oper) (h : RHint) (f : FState) (k : FState → Qy α) : Qy α :=
  match explMark h with
  | true => qexpl A B E G H n all all.length (Array.replicate all.length false) f k
  | false => (match loneMark h with
    | true => qord A B E G H n (unmark h).tk (quietHeap H all (unmark h).pre) (quietAt H all (unmark h).pre) all (quietPre (unmark h).pre) f (fun f1 =>
        qlone A B E G H n (unmark h) all (preAll (unmark h).pre (Array.replicate all.length false)) ((unmark h).pre.length - (quietPre (unmark h).pre).length) (preAll (quietPre (unmark h).pre) (Array.replicate all.length false)) f1 (fun f0 =>
          match fshowMk E n all (unmark h).nw f0 with
          | some f2 => qops A B E G H n all (pickOps all (unmark h).tail) f2 k
          | none => .fail))
    | false => qord A B E G H n h.tk (quietHeap H all h.pre) (quietAt H all h.pre) all h.pre f (fun f1 =>
        match fshowMk E n all h.nw f1 with
        | some f2 => qops A B E G H n all (pickOps all h.tail) f2 k
        | none => .fail))

noncomputable def qregion (live : Nat → Nat) (id : Nat) (ops : Array Oper) (draw : Bool) (f : FState) (k : FState → Qy α) : Qy α :=
  match draw with
  | true => qdraw A B E G H n ops.toList (H.ord id) f (fun f' => match fghost n (live id) (fprune f' (fun l => pruneS l (live id))) with | some f2 => k f2 | none => .fail)
  | false => qops A B E G (H.at id) n ops.toList ops.toList f (fun f' => match fghost n (live id) (fprune f' (fun l => pruneS l (live id))) with | some f2 => k f2 | none => .fail)

noncomputable def qcode (live : Nat → Nat) (c : Code) : FState → (Exit × FState → Qy α) → Qy α :=
  Code.rec (motive := fun _ => FState → (Exit × FState → Qy α) → Qy α)
    (skip := fun f k => k (.normal, f))
    (region := fun id ops draw f k => qregion A B E G H n live id ops draw f (fun f => k (.normal, f)))
    (seq := fun _ _ ix iy f k => ix f (fun r => match r with
      | (.normal, f') => iy f' k
      | r => k r))
    (cond := fun c _ _ ix iy f k => (match feval G n f c with
      | .dat (.flat (.bool b)) => (match b with | true => ix f k | false => iy f k)
      | _ => .fail))
    (block := fun id _ ic f k => ic f (fun r => match r with
      | (.exit i, f') => (match Nat.beq i id with | true => k (.normal, f') | false => k (.exit i, f'))
      | r => k r))
    (loop := fun c _ f k => .loop n c f k)
    (rangeFunc := fun _ _ _ _ _ _ _ _ => .fail)
    (exit := fun id f k => k (.exit id, f))
    (scope := fun _ ic f k => ic f (fun r => match r with
      | (.goto _, _) => .fail
      | r => k r))
    (label := fun _ f k => k (.normal, f))
    (goto := fun _ _ _ => .fail)
    (ret := fun f k => k (.ret, f))
    (refuse := fun _ _ _ => .fail) c
end

noncomputable def qfun (A B : Nat → Bool) (E : TEnv) (G : Globs) (moves caps : FuncId → Bool) (x : XFn) (g : FuncId) (args : List AVal) (heap : Heap) (next : Nat) : Qy XRes :=
  match Nat.ble args.length x.ntmps with
  | false => .fail
  | true => qcode A B E G ⟨moves, x.ord, caps, rowsOf caps g⟩ x.ntmps x.live x.code ⟨slOf 0 args, [], heap, next⟩ (fun r => match r with
    | (.ret, f) => (match fret E x.ntmps x.results f with | some r => .fin (gcR next r) | none => .fail)
    | (.normal, f) => (match fret E x.ntmps x.results f with | some r => .fin (gcR next r) | none => .fail)
    | _ => .fail)

/-! ### Soundness -/
section
variable {P : Program} {E : TEnv} {G : Globs} {H : Hints} {n : Nat} {α : Type} {A B : Nat → Bool} {T : α → Prop}

theorem aone_mono {all : List Oper} {o : Oper} {K K' : AState → Prop} {s : AState} (hk : ∀ s, K s → K' s) (h : aone (ACalls P G) E G H all o K s) : aone (ACalls P G) E G H all o K' s := by
  unfold aone at h ⊢
  split
  · rename_i hw; simp [hw] at h
  · rename_i b hw
    simp only [hw] at h
    split
    · rename_i hb
      simp only [hb, if_true] at h
      split
      · rename_i c hc
        simp only [hc] at h
        split
        · rename_i f args s2 ha
          simp only [ha] at h
          exact h.mono fun v heap n hq h1 h2 => hk _ (hq h1 h2)
        · rename_i ha
          simp [ha] at h
      · rename_i hc
        simp only [hc] at h
        split
        · rename_i s' hs'
          simp only [hs'] at h
          exact hk _ h
        · rename_i hs'; simp [hs'] at h
    · rename_i hb
      simp only [hb] at h
      exact hk _ h

/-- After a state, the run goes on. -/
def QAft (P : Program) (G : Globs) (n : Nat) (T : α → Prop) (k : FState → Qy α) (s : AState) : Prop := ∃ f', s = f'.toA n ∧ (k f').Ok P G T

theorem qask_ok {d : Option Tmp} {f : FState} {k : FState → Qy α} (h : (qask A n d f k).Ok P G T) : QAft P G n T k (f.toA n) := by
  unfold qask at h
  cases d with
  | none => exact ⟨f, rfl, h⟩
  | some t =>
    dsimp only at h
    split at h
    · split at h
      · rename_i b hb
        refine ⟨fput f (some t) (.dat (.flat (.bool b))), ?_, h⟩
        rw [fput_eq]
        rw [← fget_eq] at hb
        unfold AState.put
        dsimp only
        have hb2 : (f.toA n).tmps[t]? = some (.dat (.flat (.bool b))) := by
          unfold getT at hb
          cases he : (f.toA n).tmps[t]? with
          | none => rw [he] at hb; simp at hb
          | some v => rw [he] at hb; simpa using hb
        rw [set_self hb2]
      · exact ⟨f, rfl, h⟩
    · exact ⟨f, rfl, h⟩

theorem qstep_ok {q take : Bool} {o : Oper} {f : FState} {k : FState → Qy α} (h : (qstep A B E G n q take o f k).Ok P G T) : ∃ s', astep E G q take o (f.toA n) = some s' ∧ QAft P G n T k s' := by
  rw [fstep_eq]
  unfold qstep at h
  split at h
  · obtain ⟨out, ho, h⟩ := h
    dsimp only at h
    split at h
    · rename_i f' hf'
      refine ⟨f'.toA n, ?_, qask_ok h⟩
      unfold fstep fstep1
      rw [ho]
      dsimp only
      rw [hf']; rfl
    · exact h.elim
  · split at h
    · rename_i f' hf'
      exact ⟨f'.toA n, by rw [hf']; rfl, qask_ok h⟩
    · exact h.elim

theorem qone_ok {all : List Oper} {o : Oper} {f : FState} {k : FState → Qy α} (h : (qone A B E G H n all o f k).Ok P G T) : aone (ACalls P G) E G H all o (QAft P G n T k) (f.toA n) := by
  unfold qone at h
  unfold aone
  rw [fwanted_eq]
  cases hw : fwanted n all f o.guard with
  | none => rw [hw] at h; exact h.elim
  | some b =>
    rw [hw] at h
    cases b with
    | false =>
      dsimp only at h ⊢
      rw [if_neg (by simp)]
      exact ⟨_, by rw [fput_eq], h⟩
    | true =>
      dsimp only at h ⊢
      rw [if_pos rfl]
      cases hc : isCall o.op with
      | none =>
        rw [hc] at h
        dsimp only at h ⊢
        obtain ⟨s', h1, h2⟩ := qstep_ok h
        rw [h1]
        exact h2
      | some c =>
        rw [hc] at h
        dsimp only at h ⊢
        rw [fcallee_eq]
        cases hcal : fcallee E G H n c f with
        | none => rw [hcal] at h; exact h.elim
        | some x =>
          obtain ⟨g, args, f2⟩ := x
          rw [hcal] at h
          dsimp only [Option.map_some] at h ⊢
          refine ACalls.mono h ?_
          intro v hh m hq b1 b2
          have := qask_ok (hq b1 b2)
          rw [fback_eq] at this
          exact this

theorem qops_ok {all : List Oper} {k : FState → Qy α} : ∀ {ops : List Oper} {f : FState}, (qops A B E G H n all ops f k).Ok P G T → aops (ACalls P G) E G H all (QAft P G n T k) ops (f.toA n)
  | [], f, h => ⟨f, rfl, h⟩
  | o :: rest, f, h => by
    have h : (qone A B E G H n all o f (fun f' => qops A B E G H n all rest f' k)).Ok P G T := h
    simp only [aops, askK_eq]
    refine aone_mono ?_ (qone_ok h)
    rintro s ⟨f', rfl, h'⟩
    exact qops_ok h'

theorem qopL_ok {fh : Bool} {tk : List Nat} {all : List Oper} {o : Oper} {f : FState} {k : FState → Qy α} (h : (qopL A B E G H n fh tk all o f k).Ok P G T) : opL (ACalls P G) E G H fh tk all o (QAft P G n T k) (f.toA n) := by
  unfold qopL at h
  unfold opL
  rw [fwanted_eq]
  cases hw : fwanted n all f o.guard with
  | none => rw [hw] at h; exact h.elim
  | some b =>
    rw [hw] at h
    cases b with
    | false =>
      dsimp only at h ⊢
      rw [if_neg (by simp)]
      exact ⟨_, by rw [fput_eq], h⟩
    | true =>
      dsimp only at h ⊢
      rw [if_pos rfl]
      cases hc : isCall o.op with
      | none =>
        rw [hc] at h
        dsimp only at h ⊢
        cases ht : appSlot o.op with
        | none =>
          rw [ht] at h
          dsimp only at h ⊢
          cases hst : isStore o.op with
          | false => rw [hst] at h; exact h.elim
          | true =>
            rw [hst] at h
            dsimp only at h ⊢
            obtain ⟨s', h1, h2⟩ := qstep_ok h
            rw [h1]
            exact h2
        | some t =>
          rw [ht] at h
          dsimp only at h ⊢
          rw [ftkNil_eq]
          cases hs : fshowTk n fh all (tkFor all t (ftkNil n tk t f)) f with
          | none => rw [hs] at h; exact h.elim
          | some f1 =>
            rw [hs] at h
            rw [fshowTk_some n fh all _ _ _ hs]
            dsimp only at h ⊢
            obtain ⟨s', h1, h2⟩ := qstep_ok h
            rw [h1]
            exact h2
      | some c =>
        rw [hc] at h
        dsimp only at h ⊢
        rw [fcalleeD_eq]
        cases hcal : fcalleeD E G H n c f with
        | none => rw [hcal] at h; exact h.elim
        | some x =>
          obtain ⟨g, args, f2⟩ := x
          rw [hcal] at h
          dsimp only [Option.map_some] at h ⊢
          cases hpu : isPure H o with
          | true =>
            rw [hpu] at h
            dsimp only at h ⊢
            refine ACalls.mono h ?_
            intro v hh m hq b1 b2
            have hq := hq b1 b2
            dsimp only at hq
            cases hh with
            | nil =>
              dsimp only at hq
              have := qask_ok hq
              rw [fback_eq] at this
              exact ⟨rfl, this⟩
            | cons _ _ => exact hq.elim
          | false =>
            rw [hpu] at h
            dsimp only at h ⊢
            refine ACalls.mono h ?_
            intro v hh m hq b1 b2
            have hq := hq b1 b2
            cases hrd : isRead H o with
            | true =>
              rw [hrd] at hq
              dsimp only at hq
              obtain ⟨q1, q2⟩ := hq
              have := qask_ok q2
              rw [fback_eq] at this
              exact ⟨fun _ => q1, this⟩
            | false =>
              rw [hrd] at hq
              dsimp only at hq
              have := qask_ok hq
              rw [fback_eq] at this
              exact ⟨fun hx => by simp at hx, this⟩

theorem qstepQ_ok {fh : Bool} {all : List Oper} {o : Oper} {f : FState} {k : AVal → Qy α} (h : (qstepQ B E G n fh all o f k).Ok P G T) : ∃ a, fstepQ E G n fh all o f = some a ∧ (k a).Ok P G T := by
  unfold qstepQ at h
  split at h
  · unfold fstepQ
    split at h
    · exact h.elim
    · rename_i b hw
      rw [hw]
      dsimp only
      cases b with
      | false => exact ⟨_, rfl, h⟩
      | true =>
        rw [if_pos rfl]
        dsimp only at h
        split at h
        · rename_i hal
          rw [if_pos hal]
          split at h
          · rename_i x hx
            rw [hx]
            exact ⟨_, rfl, h⟩
          · exact h.elim
        · rename_i hal
          rw [if_neg (by simp [hal])]
          split at h
          · exact h.elim
          · rename_i hc
            rw [hc]
            dsimp only
            split at h
            · rename_i hq
              rw [if_pos hq]
              obtain ⟨out, ho, h⟩ := h
              rw [ho]
              dsimp only at h ⊢
              split at h
              · exact ⟨_, rfl, h⟩
              · exact h.elim
            · exact h.elim
  · split at h
    · rename_i a ha
      exact ⟨a, ha, h⟩
    · exact h.elim

theorem qord_cons {tk : List Nat} {fh : Bool} {fq : Nat → Bool} {all : List Oper} {i : Nat} {lone : Bool} {rest : List (Nat × Bool)} {f : FState} {k : FState → Qy α} : qord A B E G H n tk fh fq all ((i, lone) :: rest) f k = (match all[i]? with
    | none => .fail
    | some o => match lone with
      | true => qopL A B E G H n fh tk all o f (fun f' => qord A B E G H n tk fh fq all rest f' k)
      | false => qstepQ B E G n (fh || fq i) all o f (fun a => qask A n o.dst (fput f o.dst a) (fun f' => qord A B E G H n tk fh fq all rest f' k))) := rfl

theorem qord_ok {tk : List Nat} {fh : Bool} {fq : Nat → Bool} {all : List Oper} {k : FState → Qy α} {K : AState → Prop} (hK : ∀ s, QAft P G n T k s → K s) : ∀ {l : List (Nat × Bool)} {f : FState}, (qord A B E G H n tk fh fq all l f k).Ok P G T → aordP (ACalls P G) E G H tk fh fq all K l (f.toA n)
  | [], f, h => hK _ ⟨f, rfl, h⟩
  | (i, lone) :: rest, f, h => by
    rw [qord_cons] at h
    simp only [aordP, askK_eq]
    cases hi : all[i]? with
    | none => rw [hi] at h; exact h.elim
    | some o =>
      rw [hi] at h
      cases lone with
      | true =>
        dsimp only at h ⊢
        rw [if_pos rfl]
        refine opL_mono ?_ (qopL_ok h)
        rintro s ⟨f', rfl, h'⟩
        exact qord_ok hK h'
      | false =>
        dsimp only at h ⊢
        rw [if_neg (by simp), fstepQ_eq]
        obtain ⟨a, h1, h2⟩ := qstepQ_ok h
        rw [h1]
        dsimp only
        rw [← fput_eq]
        obtain ⟨f', e, h'⟩ := qask_ok h2
        rw [e]
        exact qord_ok hK h'

theorem qboth_ok {F : Nat → Qy α} : ∀ {l : List Nat} {i : Nat}, (qboth F i l).Ok P G T → ∀ j ∈ i :: l, (F j).Ok P G T
  | [], i, h, j, hj => by simp at hj; subst hj; exact h
  | x :: l, i, h, j, hj => by
    obtain ⟨h1, h2⟩ := h
    rcases List.mem_cons.1 hj with rfl | hj
    · exact h1
    · exact qboth_ok h2 j hj

theorem qexpl_ok {all : List Oper} {k : FState → Qy α} : ∀ (m : Nat) (listed : Array Bool) (f : FState), (qexpl A B E G H n all m listed f k).Ok P G T → aexpl (ACalls P G) E G H all (QAft P G n T k) m listed (f.toA n)
  | 0, listed, f, h => by
    simp only [qexpl] at h
    split at h
    · rename_i he
      exact ⟨he, f, rfl, h⟩
    · exact h.elim
  | m + 1, listed, f, h => by
    simp only [qexpl] at h
    simp only [aexpl]
    split at h
    · rename_i he
      exact .inl ⟨he, f, rfl, h⟩
    · rename_i i l he
      refine .inr ⟨by rw [he]; simp, ?_⟩
      rw [he]
      intro j hj
      have h1 := qboth_ok h j hj
      split at h1
      · rename_i o ho
        refine ⟨o, ho, aone_mono ?_ (qone_ok h1)⟩
        rintro s ⟨f', rfl, h'⟩
        exact qexpl_ok m _ f' h'
      · exact h1.elim

theorem aexpl_mono {all : List Oper} {Q Q' : AState → Prop} (hq : ∀ s, Q s → Q' s) : ∀ (m : Nat) (listed : Array Bool) (s : AState), aexpl (ACalls P G) E G H all Q m listed s → aexpl (ACalls P G) E G H all Q' m listed s
  | 0, listed, s, h => ⟨h.1, hq _ h.2⟩
  | m + 1, listed, s, h => by
    simp only [aexpl] at h ⊢
    rcases h with h | h
    · exact .inl ⟨h.1, hq _ h.2⟩
    · refine .inr ⟨h.1, fun i hi => ?_⟩
      obtain ⟨o, ho, hh⟩ := h.2 i hi
      exact ⟨o, ho, aone_mono (fun s hs => aexpl_mono hq m _ s hs) hh⟩

theorem qlone_ok {h : RHint} {all : List Oper} {p : Array Bool} {k : FState → Qy α} {K : AState → Prop} (hK : ∀ s, QAft P G n T k s → K s) : ∀ (m : Nat) (listed : Array Bool) (f : FState), (qlone A B E G H n h all p m listed f k).Ok P G T → aloneP (ACalls P G) E G H h all p K m listed (f.toA n)
  | 0, listed, f, hh => by
    simp only [qlone] at hh
    split at hh
    · rename_i he
      exact ⟨Array.ext' (eqBs_spec.1 he), hK _ ⟨f, rfl, hh⟩⟩
    · exact hh.elim
  | m + 1, listed, f, hh => by
    simp only [qlone] at hh
    split at hh
    · exact hh.elim
    · rename_i hne
      split at hh
      · exact hh.elim
      · rename_i i l he
        refine ⟨fun e => ?_, by rw [he]; simp, fun j hj => ?_⟩
        · rw [e, eqBs_spec.2 rfl] at hne
          simp at hne
        · rw [he] at hj
          have h1 := qboth_ok hh j hj
          split at h1
          · rename_i hc
            refine ⟨by simpa using hc, ?_⟩
            split at h1
            · rename_i o ho
              refine ⟨o, ho, opL_mono ?_ (qopL_ok h1)⟩
              rintro s ⟨f', rfl, h'⟩
              exact qlone_ok hK m _ f' h'
            · exact h1.elim
          · exact h1.elim

theorem qdraw_ok {all : List Oper} {h : RHint} {f : FState} {k : FState → Qy α} (hh : (qdraw A B E G H n all h f k).Ok P G T) : adraw (ACalls P G) E G H all h (QAft P G n T k) (f.toA n) := by
  unfold qdraw at hh
  unfold adraw
  cases hx : explMark h with
  | true =>
    rw [hx] at hh
    dsimp only at hh
    rw [if_pos rfl]
    refine aexpl_mono ?_ _ _ _ (qexpl_ok _ _ _ hh)
    intro s hs
    exact ⟨s, hs, fun w R N tmps bsT bsL bsH bsF hr => ⟨N, bsT, bsL, bsH, hr, fun _ _ _ h => h⟩⟩
  | false =>
    rw [hx] at hh
    dsimp only at hh
    rw [if_neg (by simp)]
    cases hlm : loneMark h with
    | true =>
      rw [hlm] at hh
      dsimp only at hh
      rw [if_pos rfl]
      unfold adrawL
      refine qord_ok ?_ hh
      rintro s ⟨f1, rfl, h1⟩
      refine qlone_ok ?_ _ _ _ h1
      rintro s ⟨f0, rfl, h0⟩
      dsimp only at h0
      split at h0
      · rename_i f2 hf2
        rw [fshowMk_some E n all _ f0 f2 hf2]
        exact qops_ok h0
      · exact h0.elim
    | false =>
      rw [hlm] at hh
      dsimp only at hh
      rw [if_neg (by simp)]
      refine qord_ok ?_ hh
      rintro s ⟨f1, rfl, h1⟩
      dsimp only at h1
      split at h1
      · rename_i f2 hf2
        rw [fshowMk_some E n all _ f1 f2 hf2]
        exact qops_ok h1
      · exact h1.elim

theorem ghost_prune (f : FState) (m : Nat) : Ghost G (f.toA n) ((fprune f (fun l => pruneS l m)).toA n) := by
  intro w R N tmps bsT bsL bsH bsF hr
  obtain ⟨bsT', hr'⟩ := hr.prune m
  exact ⟨R, N, bsT', bsL, bsH, hr', keep_refl _, fun _ _ h => h⟩

theorem acode_ghosts {c : Code} {s : AState} {Q Q' : Exit → AState → Prop} (h : ACode P G c Q s) (hg : ∀ e s1, Q e s1 → ∃ s2, Ghost G s1 s2 ∧ Q' e s2) : ACode P G c Q' s := by
  intro w R N act bsT bsL bsH bsF hr D hd
  refine wp_mono (h w R N act bsT bsL bsH bsF hr hd) ?_
  rintro e a w' ⟨s', R', N', bsT', bsL', bsH', hq, hr', hd', hk, hN⟩
  obtain ⟨s2, hg, hq2⟩ := hg e s' hq
  obtain ⟨R2, N2, t2, l2, h2, hr2, hk2, hN2⟩ := hg _ _ _ _ _ _ _ _ hr'
  exact ⟨s2, R2, N2, t2, l2, h2, hq2, hr2, hd', hk.trans hk2, fun o b ho => hN2 o b (hN o b ho)⟩

theorem qregion_ok (hE : E.Ok P) {live : Nat → Nat} {id : Nat} {ops : Array Oper} {draw : Bool} {f : FState} {k : FState → Qy α} (hc : chkAll H (.region id ops draw) = true) (h : (qregion A B E G H n live id ops draw f k).Ok P G T) :
    ACode P G (.region id ops draw) (fun e s => e = .normal ∧ QAft P G n T k s) (f.toA n) := by
  have key : ∀ s1, QAft P G n T (fun f' => match fghost n (live id) (fprune f' (fun l => pruneS l (live id))) with | some f2 => k f2 | none => .fail) s1 → ∃ s2, Ghost G s1 s2 ∧ QAft P G n T k s2 := by
    rintro s1 ⟨f1, rfl, h1⟩
    dsimp only at h1
    split at h1
    · rename_i f2 hf2
      exact ⟨_, (ghost_prune f1 (live id)).trans (fghost_ghost G hf2), f2, rfl, h1⟩
    · exact h1.elim
  unfold qregion at h
  cases draw with
  | true =>
    dsimp only at h
    refine acode_ghosts (acode_draw (H := H) (Q := fun e s => e = .normal ∧ QAft P G n T (fun f' => match fghost n (live id) (fprune f' (fun l => pruneS l (live id))) with | some f2 => k f2 | none => .fail) s) hE hE.mixed (by simpa [chkAll] using hc) ?_) ?_
    · have := qdraw_ok h
      simpa using this
    · rintro e s1 ⟨rfl, h1⟩
      obtain ⟨s2, g, h2⟩ := key s1 h1
      exact ⟨s2, g, rfl, h2⟩
  | false =>
    dsimp only at h
    refine acode_ghosts (acode_region (H := H.at id) (Q := fun e s => e = .normal ∧ QAft P G n T (fun f' => match fghost n (live id) (fprune f' (fun l => pruneS l (live id))) with | some f2 => k f2 | none => .fail) s) hE ?_) ?_
    · have := qops_ok h
      simpa using this
    · rintro e s1 ⟨rfl, h1⟩
      obtain ⟨s2, g, h2⟩ := key s1 h1
      exact ⟨s2, g, rfl, h2⟩

/-- After an exit, the run goes on. -/
def QAftC (P : Program) (G : Globs) (n : Nat) (T : α → Prop) (k : Exit × FState → Qy α) (e : Exit) (s : AState) : Prop := ∃ f', s = f'.toA n ∧ (k (e, f')).Ok P G T

theorem qcode_ok (hE : E.Ok P) (live : Nat → Nat) : ∀ (c : Code) (f : FState) (k : Exit × FState → Qy α), chkAll H c = true → (qcode A B E G H n live c f k).Ok P G T → ACode P G c (QAftC P G n T k) (f.toA n)
  | .skip, f, k, _, h => acode_here wp_skip ⟨f, rfl, h⟩
  | .region id ops draw, f, k, hc, h => by
    refine (qregion_ok hE hc h).mono ?_
    rintro e s ⟨rfl, f', rfl, h'⟩
    exact ⟨f', rfl, h'⟩
  | .seq x y, f, k, hc, h => by
    simp only [chkAll, Bool.and_eq_true] at hc
    refine acode_seq ?_
    refine (qcode_ok hE live x f (fun r => match r with | (.normal, f') => qcode A B E G H n live y f' k | r => k r) hc.1 h).mono ?_
    rintro e s ⟨f', rfl, h'⟩
    cases e with
    | normal => exact qcode_ok hE live y f' k hc.2 h'
    | _ => exact ⟨f', rfl, h'⟩
  | .cond c x y, f, k, hc, h => by
    simp only [chkAll, Bool.and_eq_true] at hc
    intro w R N act bsT bsL bsH bsF hr D hd
    have h : (match feval G n f c with
      | .dat (.flat (.bool b)) => (match b with | true => qcode A B E G H n live x f k | false => qcode A B E G H n live y f k)
      | _ => .fail).Ok P G T := h
    split at h
    · rename_i b hb
      obtain ⟨bs, he⟩ := eval_raw hr.tmps hr.glob c
      rw [feval_eq, hb] at he
      obtain ⟨_, he, _⟩ := repV_flat_inv he
      refine wp_cond he ?_
      cases b with
      | true => exact qcode_ok hE live x f k hc.1 h w R N act bsT bsL bsH bsF hr hd
      | false => exact qcode_ok hE live y f k hc.2 h w R N act bsT bsL bsH bsF hr hd
    · exact h.elim
  | .block id c, f, k, hc, h => by
    simp only [chkAll] at hc
    intro w R N act bsT bsL bsH bsF hr D hd
    apply wp_block
    refine wp_mono (qcode_ok hE live c f (fun r => match r with
      | (.exit i, f') => (match Nat.beq i id with | true => k (.normal, f') | false => k (.exit i, f'))
      | r => k r) hc h w R N act bsT bsL bsH bsF hr hd) ?_
    rintro e2 a w' ⟨s2, R', N', bsT', bsL', bsH', ⟨f', rfl, h'⟩, rest⟩
    cases e2 with
    | exit i =>
      simp only [Exit.inBlock]
      dsimp only at h'
      by_cases hi : i = id
      · have hb : Nat.beq i id = true := by rw [Nat.beq_eq]; exact hi
        rw [if_pos hi]
        rw [hb] at h'
        exact ⟨_, R', N', bsT', bsL', bsH', ⟨f', rfl, h'⟩, rest⟩
      · have hb : Nat.beq i id = false := by rw [Bool.eq_false_iff]; intro hc; rw [Nat.beq_eq] at hc; exact hi hc
        rw [if_neg hi]
        rw [hb] at h'
        exact ⟨_, R', N', bsT', bsL', bsH', ⟨f', rfl, h'⟩, rest⟩
    | _ => exact ⟨_, R', N', bsT', bsL', bsH', ⟨f', rfl, h'⟩, rest⟩
  | .exit id, f, k, _, h => acode_here wp_exit ⟨f, rfl, h⟩
  | .ret, f, k, _, h => acode_here wp_ret ⟨f, rfl, h⟩
  | .loop c, f, k, _, h => h
  | .rangeFunc _ _ _ _, _, _, _, h => h.elim
  | .scope c, f, k, hc, h => by
    simp only [chkAll] at hc
    intro w R N act bsT bsL bsH bsF hr D hd
    apply wp_scope_straight
    refine wp_mono (qcode_ok hE live c f (fun r => match r with
      | (.goto _, _) => .fail
      | r => k r) hc h w R N act bsT bsL bsH bsF hr hd) ?_
    rintro e2 a w' ⟨s2, R', N', bsT', bsL', bsH', ⟨f', rfl, h'⟩, rest⟩
    cases e2 with
    | goto l => exact h'.elim
    | _ => exact ⟨_, R', N', bsT', bsL', bsH', ⟨f', rfl, h'⟩, rest⟩
  | .label _, f, k, _, h => acode_here wp_label ⟨f, rfl, h⟩
  | .goto _, _, _, _, h => h.elim
  | .refuse _, _, _, _, h => h.elim
end
end Go.Tp
namespace Go.Tp

section
variable {P : Program} {E : TEnv} {G : Globs}

theorem ACalls.gcQ {f : FuncId} {args : List AVal} {heap : Heap} {next : Nat} {Q : AVal → Heap → Nat → Prop} (h : ACalls P G f args heap next Q) : ACalls P G f args heap next (fun v h m => ∃ r : XRes, Q r.val r.heap r.next ∧ (⟨v, h, m⟩ : XRes) = gcR next r) := by
  intro w R N cargs bsA bsH bsF ha hh hnd hnx hg hF
  refine (h w R N cargs bsA bsH bsF ha hh hnd hnx hg hF).mono ?_
  rintro e w' ⟨val, cv, heap', next', R', N', bsV, bsH', rfl, hq, hv', hh', hnd', hnx', hk, hN⟩
  have key : ∀ r : XRes, r = gcR next ⟨val, heap', next'⟩ → ∃ R2 N2 bsV2 bsH2, RepV w' R2 (outs N2) r.val cv bsV2 ∧ RepObjs w' R2 (outs N2) r.heap bsH2 ∧ (bsV2 ++ (bsH2 ++ bsF)).Nodup ∧ (∀ o b, N2 (.out o) = some b → o < r.next) ∧ Keep w R w' R2 bsF ∧ (∀ o b, N (.out o) = some b → N2 (.out o) = some b) := by
    intro r hr
    unfold gcR at hr
    dsimp only at hr
    split at hr
    · rename_i hnew
      subst hr
      simp only [Bool.or_eq_false_iff] at hnew
      obtain ⟨bs', k1, k2⟩ := oldObjs_rep next hh'
      let N2 : Name → Option Nat := fun m => match m with | .loc i => N' (.loc i) | .out o => if o < next then N' (.out o) else none
      have hM : ∀ o b, o < next → outs N' (.out o) = some b → outs N2 (.out o) = some b := by
        intro o b ho hb
        simp only [outs] at hb ⊢
        simp only [N2]
        rw [if_pos ho]; exact hb
      refine ⟨R', N2, bsV, bs', hv'.low hM hnew.1, k1.low hM (oldObjs_old next heap') hnew.2, ?_, ?_, hk, ?_⟩
      · exact List.Nodup.sublist (List.Sublist.append (.refl _) (List.Sublist.append k2 (.refl _))) hnd'
      · intro o b hb
        simp only [N2] at hb
        split at hb
        · assumption
        · simp at hb
      · intro o b hb
        simp only [N2]
        rw [if_pos (hnx o b hb)]
        exact hN o b hb
    · subst hr
      obtain ⟨bs', k1, k2⟩ := keepObjs_rep next (closeL next heap' 3 (outsV val)) hh'
      exact ⟨R', N', bsV, bs', hv', k1, List.Nodup.sublist (List.Sublist.append (.refl _) (List.Sublist.append k2 (.refl _))) hnd', hnx', hk, hN⟩
  obtain ⟨R2, N2, bsV2, bsH2, k⟩ := key _ rfl
  exact ⟨_, cv, _, _, R2, N2, bsV2, bsH2, rfl, ⟨⟨val, heap', next'⟩, hq, rfl⟩, k⟩

theorem aret_mono {rs : List ResultVar} {Q Q' : AVal → List (Name × AObj) → Nat → Prop} {s : AState} (hq : ∀ v h n, Q v h n → Q' v h n) (h : aret E rs Q s) : aret E rs Q' s := by
  unfold aret at h ⊢
  generalize retVals E s rs = rv at h ⊢
  cases rv with
  | none => exact h
  | some vs =>
    dsimp only at h ⊢
    by_cases hn : noLocL (tidyL vs) = true
    · rw [if_pos hn] at h ⊢
      exact hq _ _ _ h
    · rw [if_neg hn] at h ⊢
      generalize expAll (repeatL s.locs.length (locNames s.locs)) s (tidyL vs) = x at h ⊢
      obtain ⟨s', vs'⟩ := x
      dsimp only at h ⊢
      by_cases hn2 : noLocL vs' = true
      · rw [if_pos hn2] at h ⊢
        exact hq _ _ _ h
      · rw [if_neg hn2] at h ⊢
        exact h

/-- A function's contract. -/
theorem qfun_ok {A B : Nat → Bool} {moves caps : FuncId → Bool} {F : FuncId → Option XFn} (hE : E.Ok P) (hF : FOk P moves caps F) {g : FuncId} {x : XFn} (hx : F g = some x) {args : List AVal} {heap : Heap} {next : Nat} {T : XRes → Prop}
    (h : bndL args → bndO heap → (qfun A B E G moves caps x g args heap next).Ok P G T) : ACalls P G g args heap next (fun v h m => T ⟨v, h, m⟩) := by
  obtain ⟨fn, h1, h2, h3, h4, h5⟩ := hF g x hx
  have h6 : ACalls P G g args heap next (fun v h m => T (gcR next ⟨v, h, m⟩)) := by
    refine acalls_of_acode hE h1 h2 ?_
    intro b1 b2
    have h := h b1 b2
    rw [h3, h4]
    unfold qfun at h
    split at h
    · exact h.elim
    · rename_i hlen
      have hlen := ble_to hlen
      have hent : (⟨slOf 0 args, [], heap, next⟩ : FState).toA x.ntmps = enter x.ntmps args heap next := by
        simp only [FState.toA, enter]
        congr 1
        apply List.ext_getElem?
        intro i
        rw [mkS_get, Nat.zero_add, slOf_get, if_pos (Nat.zero_le _), Nat.sub_zero, List.getElem?_append]
        split
        · split
          · rename_i hi; unfold getT; rw [List.getElem?_eq_getElem hi]
          · rename_i hi1 hi
            rw [List.getElem?_replicate, if_pos (by omega)]
            unfold getT
            rw [List.getElem?_eq_none (by omega)]
        · rename_i hi
          rw [if_neg (by omega), List.getElem?_replicate, if_neg (by omega)]
      rw [← hent]
      refine (qcode_ok (H := ⟨moves, x.ord, caps, rowsOf caps g⟩) hE x.live x.code _ _ (by rw [chkAll_rows]; exact h5) h).mono ?_
      rintro e s ⟨f', rfl, h'⟩
      have key : (match fret E x.ntmps x.results f' with | some r => (Qy.fin (gcR next r) : Qy XRes) | none => .fail).Ok P G T → aret E x.results (fun v h m => T (gcR next ⟨v, h, m⟩)) (f'.toA x.ntmps) := by
        intro hh
        split at hh
        · rename_i r hr
          have := xret_sound (E := E) (rs := x.results) (s := f'.toA x.ntmps) (r := r) (by rw [fret_eq]; exact hr)
          exact aret_mono (by rintro v h m ⟨rfl, rfl, rfl⟩; exact hh) this
        · exact hh.elim
      cases e with
      | ret => exact key h'
      | normal => exact key h'
      | _ => exact h'.elim
  refine h6.gcQ.mono ?_
  rintro v h m ⟨r, hr, e⟩
  rw [e]; exact hr

/-! ### Loops -/
/-- Code from a state. -/
def CodeOk (P : Program) (G : Globs) (n : Nat) (c : Code) (s : AState) (T : Exit → AState → Prop) : Prop := ACode P G c T s

/-- A loop: I m s is what holds at the head of a round, m goes down. -/
theorem loopM {c : Code} {T : Exit → AState → Prop} (I : Nat → AState → Prop)
    (step : ∀ m s, I m s → ACode P G c (seqQ (fun s' => ∃ m', m' < m ∧ I m' s') T) s) {m : Nat} {s : AState} (h : I m s) : ACode P G (.loop c) T s := by
  intro w R N act bsT bsL bsH bsF hr D hd
  refine wp_loop_ghost (I := fun k a w' => ∃ s1 R' N' bsT' bsL' bsH', I k s1 ∧ RelB G w' R' N' a.tmps.toList s1 undef .undef [] bsT' bsL' bsH' bsF ∧ a.defers = D ∧ Keep w R w' R' bsF ∧ (∀ o b, N (.out o) = some b → N' (.out o) = some b)) (n0 := m) ?_ ?_
  · exact ⟨s, R, N, bsT, bsL, bsH, h, hr, hd, keep_refl _, fun _ _ h => h⟩
  · rintro k a w' ⟨s1, R', N', bsT', bsL', bsH', hI, hr', hd', hk, hN⟩
    refine wp_mono (step k s1 hI w' R' N' a bsT' bsL' bsH' bsF hr' hd') ?_
    rintro e a2 w2 ⟨s2, R2, N2, bsT2, bsL2, bsH2, hq, hr2, hd2, hk2, hN2⟩
    cases e with
    | normal =>
      obtain ⟨m', hlt, hI'⟩ := hq
      exact ⟨m', hlt, s2, R2, N2, bsT2, bsL2, bsH2, hI', hr2, hd2, hk.trans hk2, fun o b h => hN2 o b (hN o b h)⟩
    | _ => exact ⟨s2, R2, N2, bsT2, bsL2, bsH2, hq, hr2, hd2, hk.trans hk2, fun o b h => hN2 o b (hN o b h)⟩

/-- Code from a run that asks; what is said of the end is said of abstract states. -/
theorem qcode_run {A B : Nat → Bool} {H : Hints} {n : Nat} (hE : E.Ok P) (live : Nat → Nat) {c : Code} (hc : chkAll H c = true) {f : FState} {T : Exit → AState → Prop}
    (h : (qcode A B E G H n live c f (fun r => .fin r)).Ok P G (fun r => T r.1 (r.2.toA n))) : ACode P G c T (f.toA n) := by
  refine (qcode_ok hE live c f (fun r => .fin r) hc h).mono ?_
  rintro e s ⟨f', rfl, h'⟩
  exact h'
end

/-! ### Answers -/
section
variable {P : Program} {G : Globs} {α : Type} {T : α → Prop}

def Qy.fin? : Qy α → Option α
  | .fin a => some a
  | _ => none
def Qy.bool? : Qy α → Option Bool
  | .bool _ b _ => some b
  | _ => none
def Qy.ofB : Qy α → Bool → Qy α
  | .bool _ _ k, b => k b
  | _, _ => .fail
def Qy.out? : Qy α → Option (Option Out)
  | .out _ o _ => some o
  | _ => none
def Qy.ofO : Qy α → Out → Qy α
  | .out _ _ k, x => k x
  | _, _ => .fail
def Qy.fn? : Qy α → Option FuncId
  | .res g _ _ _ _ => some g
  | _ => none
def Qy.argsR : Qy α → List AVal
  | .res _ args _ _ _ => args
  | _ => []
def Qy.nextR : Qy α → Nat
  | .res _ _ _ next _ => next
  | _ => 0
def Qy.heapR : Qy α → Heap
  | .res _ _ h _ _ => h
  | _ => []
def Qy.ofR : Qy α → XRes → Qy α
  | .res _ _ _ _ k, r => k r
  | _, _ => .fail
def Qy.stayH : Qy α → Option (Heap × Heap)
  | .stay h h' _ => some (h, h')
  | _ => none
def Qy.ofS : Qy α → Qy α
  | .stay _ _ k => k
  | _ => .fail
def Qy.loop? : Qy α → Option (Nat × Code)
  | .loop n c _ _ => some (n, c)
  | _ => none
def Qy.loopF : Qy α → FState
  | .loop _ _ f _ => f
  | _ => ⟨[], [], [], 0⟩
def Qy.ofL : Qy α → Exit × FState → Qy α
  | .loop _ _ _ k, r => k r
  | _, _ => .fail
def Qy.left : Qy α → Option (Qy α)
  | .both a _ => some a
  | _ => none
def Qy.ofX : Qy α → Qy α
  | .both a _ => a
  | _ => .fail
def Qy.ofY : Qy α → Qy α
  | .both _ b => b
  | _ => .fail
def Qy.isBoth : Qy α → Bool
  | .both _ _ => true
  | _ => false

theorem ok_fin {q : Qy α} {a : α} (e : q.fin? = some a) (h : T a) : q.Ok P G T := by
  cases q with
  | fin x => simp only [Qy.fin?, Option.some.injEq] at e; subst e; exact h
  | _ => simp [Qy.fin?] at e
theorem ok_bool {q : Qy α} {c b : Bool} (hc : c = b) (e : q.bool? = some c) (h : (q.ofB b).Ok P G T) : q.Ok P G T := by
  cases q with
  | bool _ x k => simp only [Qy.bool?, Option.some.injEq] at e; subst e; subst hc; exact h
  | _ => simp [Qy.bool?] at e
/-- A truth value by cases. -/
theorem ok_cases {q : Qy α} {c : Bool} (e : q.bool? = some c) (ht : c = true → (q.ofB true).Ok P G T) (hf : c = false → (q.ofB false).Ok P G T) : q.Ok P G T := by
  cases c with
  | true => exact ok_bool rfl e (ht rfl)
  | false => exact ok_bool rfl e (hf rfl)
theorem ok_out {q : Qy α} {o : Option Out} {x : Out} (ho : o = some x) (e : q.out? = some o) (h : (q.ofO x).Ok P G T) : q.Ok P G T := by
  cases q with
  | out _ y k => simp only [Qy.out?, Option.some.injEq] at e; subst e; exact ⟨x, ho, h⟩
  | _ => simp [Qy.out?] at e
/-- A call, by a contract said of the objects that it is about. -/
theorem ok_res {q : Qy α} {g : FuncId} {args0 : List AVal} {h0 : Heap} {n0 : Nat} {Q : AVal → Heap → Nat → Prop} (hc : ACalls P G g args0 h0 n0 Q) (ps : List Nat)
    (hf : fitsF args0 h0 n0 = true) (e : q.fn? = some g) (ha : q.argsR = rnL (rhoL ps) args0) (hg : gotH (namesH (rnH (rhoL ps) h0)) q.heapR = rnH (rhoL ps) h0) (hn : noLocs (gotH (namesH (rnH (rhoL ps) h0)) q.heapR) = true)
    (h : ∀ v h m, Q v h m → bndV (rnV (liftN (rhoL ps) n0 q.nextR) v) → (q.ofR ⟨rnV (liftN (rhoL ps) n0 q.nextR) v, sortH (rnH (liftN (rhoL ps) n0 q.nextR) h ++ restH (namesH (rnH (rhoL ps) h0)) q.heapR), q.nextR + (m - n0)⟩).Ok P G T) : q.Ok P G T := by
  cases q with
  | res g' args heap next' k =>
    simp only [Qy.fn?, Option.some.injEq] at e
    subst e
    simp only [Qy.heapR, Qy.argsR, Qy.nextR] at ha hg hn h
    subst ha
    show ACalls P G g' _ heap next' _
    refine (hc.at hf ps rfl hg hn).mono ?_
    rintro v h' m ⟨v0, h1, n1, hq, rfl, rfl, rfl⟩ b1 b2
    exact h v0 h1 n1 hq b1
  | _ => simp [Qy.fn?] at e
theorem pure_frameQ {g : FuncId} {args : List AVal} {Q : AVal → Prop} (ha : nmFL args = true) (hQ : ∀ v, Q v → nmF v = true) (h : ACalls P G g args [] 0 (fun v h m => Q v ∧ h = [] ∧ m = 0)) (heap : Heap) (next : Nat) : ACalls P G g args heap next (fun v h m => Q v ∧ h = heap ∧ m = next) := by
  intro w R N cargs bsA bsH bsF hargs hheap hnd hnx hglob hF
  have h2 := h w R (fun _ => none) cargs bsA [] (bsH ++ bsF) (hargs.nm ha) (by simp [RepObjs]) (by simpa using hnd) (by intro o b ho; simp at ho) hglob (by
    intro b hb
    rcases List.mem_append.1 hb with hb | hb
    · exact hheap.lt b hb
    · exact hF b hb)
  refine h2.mono ?_
  rintro e w' ⟨v, cv, heap', next', R', N', bsV, bsH', rfl, ⟨hq, rfl, rfl⟩, hv, hh, hnd', _, hk, _⟩
  have hH' : bsH' = [] := by simpa [RepObjs] using hh
  subst hH'
  exact ⟨_, cv, heap, next, R', N, bsV, bsH, rfl, ⟨hq, rfl, rfl⟩, hv.nm (hQ _ hq), hheap.keep (hk.sub (by intro b hb; simp [hb])), by simpa using hnd', hnx, hk.sub (by intro b hb; simp [hb]), fun _ _ h => h⟩
theorem ok_stay {q : Qy α} {h h' : Heap} (hs : Stays h h') (e : q.stayH = some (h, h')) (hk : (q.ofS).Ok P G T) : q.Ok P G T := by
  cases q with
  | stay x y k => simp only [Qy.stayH, Option.some.injEq, Prod.mk.injEq] at e; obtain ⟨rfl, rfl⟩ := e; exact ⟨hs, hk⟩
  | _ => simp [Qy.stayH] at e
theorem stays_refl (h : Heap) : Stays h h := fun _ _ h => h
theorem ok_loop {q : Qy α} {n : Nat} {c : Code} {f : FState} {L : Exit → AState → Prop} (e : q.loop? = some (n, c)) (hs : q.loopF.toA n = f.toA n) (hl : ACode P G (.loop c) L (f.toA n))
    (h : ∀ ex s, L ex s → ∃ f', s = f'.toA n ∧ (q.ofL (ex, f')).Ok P G T) : q.Ok P G T := by
  cases q with
  | loop n' c' f' k =>
    simp only [Qy.loop?, Option.some.injEq, Prod.mk.injEq] at e
    obtain ⟨rfl, rfl⟩ := e
    simp only [Qy.loopF] at hs
    show ACode P G (.loop c') _ (f'.toA n')
    rw [hs]
    exact hl.mono h
  | _ => simp [Qy.loop?] at e
theorem ok_both {q : Qy α} (e : q.isBoth = true) (h1 : q.ofX.Ok P G T) (h2 : q.ofY.Ok P G T) : q.Ok P G T := by
  cases q with
  | both a b => exact ⟨h1, h2⟩
  | _ => simp [Qy.isBoth] at e

/-! Many answers at once. -/
inductive Ans where
  | b (x : Bool)
  | o (x : Out)
  | s

def Qy.after : List Ans → Qy α → Qy α
  | [], q => q
  | .b x :: r, q => (q.ofB x).after r
  | .o x :: r, q => (q.ofO x).after r
  | .s :: r, q => (q.ofS).after r
end
end Go.Tp
namespace Go.Tp

mutual
/-- Every object that is named is one of p. -/
def okV (p : Nat → Bool) : AVal → Bool
  | .ptr (.out o) _ => p o
  | .map (.out o) => p o
  | .win (.out o) _ _ _ => p o
  | .fn _ a b => okVs p a && okVs p b
  | .agg cs => okVs p cs
  | .tup cs => okVs p cs
  | _ => true
def okVs (p : Nat → Bool) : List AVal → Bool
  | [] => true
  | a :: r => okV p a && okVs p r
end
def okO (p : Nat → Bool) : AObj → Bool
  | .cells cs => okVs p cs
  | .map _ => true
def okH (p : Nat → Bool) : Heap → Bool
  | [] => true
  | (.out m, o) :: r => p m && okO p o && okH p r
  | (.loc _, o) :: r => okO p o && okH p r

section
variable {w : World} {R : Own} {M M2 : Name → Option Nat} {ρ : Nat → Nat} {p : Nat → Bool}
mutual
theorem RepV.rnP (hL : ∀ i b, M (.loc i) = some b → M2 (.loc i) = some b) (hM : ∀ o b, p o = true → M (.out o) = some b → M2 (.out (ρ o)) = some b) : ∀ {a : AVal} {v : Value} {bs : List Nat}, okV p a = true → RepV w R M a v bs → RepV w R M2 (rnV ρ a) v bs
  | .dat _, _, _, _, h => by simp only [rnV, RepV] at h ⊢; exact h
  | .own _, _, _, _, h => by simp only [rnV, RepV] at h ⊢; exact h
  | .ref _, _, _, _, h => by simp only [rnV, RepV] at h ⊢; exact h
  | .undef, _, _, _, h => by simp only [rnV, RepV] at h ⊢; exact h
  | .ptr (.loc i) _, _, _, _, h => by simp only [rnV, RepV] at h ⊢; obtain ⟨h1, b, h2, h3⟩ := h; exact ⟨h1, b, hL _ _ h2, h3⟩
  | .map (.loc i), _, _, _, h => by simp only [rnV, RepV] at h ⊢; obtain ⟨h1, b, h2, h3⟩ := h; exact ⟨h1, b, hL _ _ h2, h3⟩
  | .win (.loc i) _ _ _, _, _, _, h => by simp only [rnV, RepV] at h ⊢; obtain ⟨h1, b, cap, h2, h3⟩ := h; exact ⟨h1, b, cap, hL _ _ h2, h3⟩
  | .ptr (.out o) off, _, _, hp, h => by
    simp only [rnV, RepV] at h ⊢
    obtain ⟨h1, b, h2, h3⟩ := h
    exact ⟨h1, b, hM o b hp h2, h3⟩
  | .map (.out o), _, _, hp, h => by
    simp only [rnV, RepV] at h ⊢
    obtain ⟨h1, b, h2, h3⟩ := h
    exact ⟨h1, b, hM o b hp h2, h3⟩
  | .win (.out o) s off len, _, _, hp, h => by
    simp only [rnV, RepV] at h ⊢
    obtain ⟨h1, b, cap, h2, h3⟩ := h
    exact ⟨h1, b, cap, hM o b hp h2, h3⟩
  | .fn f a b, _, _, hp, h => by
    simp only [okV, Bool.and_eq_true] at hp
    simp only [rnV, RepV] at h ⊢
    obtain ⟨h1, vs, us, e, h2, h3⟩ := h
    exact ⟨h1, vs, us, e, RepVs.rnP hL hM hp.1 h2, RepVs.rnP hL hM hp.2 h3⟩
  | .agg cs, _, _, hp, h => by
    simp only [rnV, RepV] at h ⊢
    obtain ⟨vs, e, h⟩ := h
    exact ⟨vs, e, RepVs.rnP hL hM (by simpa only [okV] using hp) h⟩
  | .tup cs, _, _, hp, h => by
    simp only [rnV, RepV] at h ⊢
    obtain ⟨vs, e, h⟩ := h
    exact ⟨vs, e, RepVs.rnP hL hM (by simpa only [okV] using hp) h⟩
theorem RepVs.rnP (hL : ∀ i b, M (.loc i) = some b → M2 (.loc i) = some b) (hM : ∀ o b, p o = true → M (.out o) = some b → M2 (.out (ρ o)) = some b) : ∀ {as : List AVal} {vs : List Value} {bs : List Nat}, okVs p as = true → RepVs w R M as vs bs → RepVs w R M2 (rnL ρ as) vs bs
  | [], _, _, _, h => by simp only [rnL, RepVs] at h ⊢; exact h
  | a :: r, _, _, hp, h => by
    simp only [okVs, Bool.and_eq_true] at hp
    simp only [rnL, RepVs] at h ⊢
    obtain ⟨v, vs', b1, b2, e1, e2, h1, h2⟩ := h
    exact ⟨v, vs', b1, b2, e1, e2, RepV.rnP hL hM hp.1 h1, RepVs.rnP hL hM hp.2 h2⟩
end
theorem okVs_append (l m : List AVal) : okVs p (l ++ m) = (okVs p l && okVs p m) := by
  induction l with
  | nil => simp [okVs]
  | cons a l ih => simp [okVs, ih, Bool.and_assoc]
theorem okVs_undef : ∀ j : Nat, okVs p (List.replicate j .undef) = true
  | 0 => rfl
  | j + 1 => by simp [List.replicate_succ, okVs, okV, okVs_undef j]
theorem RepObj.rnP (hL : ∀ i b, M (.loc i) = some b → M2 (.loc i) = some b) (hM : ∀ o b, p o = true → M (.out o) = some b → M2 (.out (ρ o)) = some b) {o : AObj} {b : Nat} {bs : List Nat} (hp : okO p o = true) (h : RepObj w R M o b bs) : RepObj w R M2 (rnO ρ o) b bs := by
  cases o with
  | map es => simp only [rnO, RepObj] at h ⊢; exact h
  | cells cs =>
    simp only [okO] at hp
    simp only [rnO, RepObj] at h ⊢
    obtain ⟨vs, elem, sp, h1, h2, h3, h4⟩ := h
    refine ⟨vs, elem, sp, h1, ?_, h3, by rw [bldSh_rn]; exact h4⟩
    have := RepVs.rnP (ρ := ρ) hL hM (as := cs ++ List.replicate sp .undef) (by rw [okVs_append, hp, okVs_undef]; rfl) h2
    rwa [rnL_append, rnL_undef] at this
theorem RepObjs.rnP (hL : ∀ i b, M (.loc i) = some b → M2 (.loc i) = some b) (hM : ∀ o b, p o = true → M (.out o) = some b → M2 (.out (ρ o)) = some b) : ∀ {os : Heap} {bs : List Nat}, okH p os = true → RepObjs w R M os bs → RepObjs w R M2 (rnH ρ os) bs
  | [], _, _, h => h
  | (.loc i, o) :: r, _, hp, ⟨b, b1, b2, e, h1, h2, h3⟩ => by
    simp only [okH, Bool.and_eq_true] at hp
    exact ⟨b, b1, b2, e, hL i b h1, h2.rnP hL hM hp.1, RepObjs.rnP hL hM hp.2 h3⟩
  | (.out m, o) :: r, _, hp, ⟨b, b1, b2, e, h1, h2, h3⟩ => by
    simp only [okH, Bool.and_eq_true] at hp
    exact ⟨b, b1, b2, e, hM m b hp.1.1 h1, h2.rnP hL hM hp.1.2, RepObjs.rnP hL hM hp.2 h3⟩
end

/-- A step that the program does not take; names from k0 on may be given anew. -/
def GhostK (G : Globs) (k0 : Nat) (s s2 : AState) : Prop :=
  ∀ (w : World) (R : Own) (N : Name → Option Nat) (tmps : List Value) (bsT bsL bsH bsF : List Nat), RelB G w R N tmps s undef .undef [] bsT bsL bsH bsF →
    ∃ R' N' bsT' bsL' bsH', RelB G w R' N' tmps s2 undef .undef [] bsT' bsL' bsH' bsF ∧ Keep w R w R' bsF ∧ (∀ o b, o < k0 → N (.out o) = some b → N' (.out o) = some b)
theorem GhostK.refl (G : Globs) (k0 : Nat) (s : AState) : GhostK G k0 s s := fun _ R N _ bsT bsL bsH _ h => ⟨R, N, bsT, bsL, bsH, h, keep_refl _, fun _ _ _ h => h⟩

section
variable {P : Program} {G : Globs}
theorem loopK {c : Code} {T : Exit → AState → Prop} (k0 : Nat) (I : Nat → AState → Prop)
    (step : ∀ m s, I m s → ACode P G c (seqQ (fun s' => ∃ s2 m', m' < m ∧ GhostK G k0 s' s2 ∧ I m' s2) T) s) {m : Nat} {s : AState} (hs : s.next ≤ k0) (h : I m s) : ACode P G (.loop c) T s := by
  intro w R N act bsT bsL bsH bsF hr D hd
  have hN0 := hr.next
  refine wp_loop_ghost (I := fun k a w' => ∃ s1 R' N' bsT' bsL' bsH', I k s1 ∧ RelB G w' R' N' a.tmps.toList s1 undef .undef [] bsT' bsL' bsH' bsF ∧ a.defers = D ∧ Keep w R w' R' bsF ∧ (∀ o b, N (.out o) = some b → N' (.out o) = some b)) (n0 := m) ?_ ?_
  · exact ⟨s, R, N, bsT, bsL, bsH, h, hr, hd, keep_refl _, fun _ _ h => h⟩
  · rintro k a w' ⟨s1, R', N', bsT', bsL', bsH', hI, hr', hd', hk, hN⟩
    refine wp_mono (step k s1 hI w' R' N' a bsT' bsL' bsH' bsF hr' hd') ?_
    rintro e a2 w2 ⟨s2, R2, N2, bsT2, bsL2, bsH2, hq, hr2, hd2, hk2, hN2⟩
    cases e with
    | normal =>
      obtain ⟨s3, m', hlt, hg, hI'⟩ := hq
      obtain ⟨R3, N3, bsT3, bsL3, bsH3, hr3, hk3, hN3⟩ := hg _ _ _ _ _ _ _ _ hr2
      exact ⟨m', hlt, s3, R3, N3, bsT3, bsL3, bsH3, hI', hr3, hd2, (hk.trans hk2).trans hk3, fun o b h => hN3 o b (by have := hN0 o b h; omega) (hN2 o b (hN o b h))⟩
    | _ => exact ⟨s2, R2, N2, bsT2, bsL2, bsH2, hq, hr2, hd2, hk.trans hk2, fun o b h => hN2 o b (hN o b h)⟩
end

/-- Where a name stands in a list. -/
def idxN (o : Nat) : List Nat → Nat → Nat
  | [], _ => o
  | q :: r, k => match Nat.beq q o with | true => k | false => idxN o r (k + 1)
/-- Old names stay; the others by their place in the list. -/
def rhoK (k0 : Nat) (ps : List Nat) (o : Nat) : Nat := match Nat.blt o k0 with | true => o | false => idxN o ps k0
def keptK (k0 : Nat) (ps : List Nat) (o : Nat) : Bool := Nat.blt o k0 || memN o ps

/-- Objects of these names alone. -/
def restrictH (q : Nat → Bool) : Heap → Heap
  | [] => []
  | (.out m, o) :: r => (match q m with | true => (.out m, o) :: restrictH q r | false => restrictH q r)
  | (.loc m, o) :: r => (.loc m, o) :: restrictH q r
theorem restrictH_rep {w : World} {R : Own} {M : Name → Option Nat} (q : Nat → Bool) : ∀ {os : Heap} {bs : List Nat}, RepObjs w R M os bs → ∃ bs', RepObjs w R M (restrictH q os) bs' ∧ bs'.Sublist bs
  | [], bs, h => ⟨bs, h, .refl _⟩
  | (.out m, o) :: os, _, ⟨b, b1, b2, e, hn, ho, hr⟩ => by
    subst e
    obtain ⟨bs', k1, k2⟩ := restrictH_rep q hr
    simp only [restrictH]
    split
    · exact ⟨b :: (b1 ++ bs'), ⟨b, b1, bs', rfl, hn, ho, k1⟩, (List.Sublist.append (.refl _) k2).cons_cons _⟩
    · exact ⟨bs', k1, k2.trans ((List.sublist_append_right b1 b2).cons _)⟩
  | (.loc m, o) :: os, _, ⟨b, b1, b2, e, hn, ho, hr⟩ => by
    subst e
    obtain ⟨bs', k1, k2⟩ := restrictH_rep q hr
    exact ⟨b :: (b1 ++ bs'), ⟨b, b1, bs', rfl, hn, ho, k1⟩, (List.Sublist.append (.refl _) k2).cons_cons _⟩

theorem idxN_lt {o : Nat} : ∀ {ps : List Nat} {k : Nat}, memN o ps = true → k ≤ idxN o ps k ∧ idxN o ps k < k + ps.length ∧ ps[idxN o ps k - k]? = some o
  | [], k, h => by simp [memN] at h
  | q :: r, k, h => by
    simp only [idxN]
    cases hq : Nat.beq q o with
    | true =>
      have := Nat.eq_of_beq_eq_true hq
      subst this
      dsimp only
      refine ⟨Nat.le_refl _, by simp, by simp⟩
    | false =>
      dsimp only
      have h2 : memN o r = true := by
        simp only [memN, hq] at h
        exact h
      obtain ⟨h3, h4, h5⟩ := idxN_lt (ps := r) (k := k + 1) h2
      refine ⟨by omega, by simp; omega, ?_⟩
      rw [show idxN o r (k + 1) - k = (idxN o r (k + 1) - (k + 1)) + 1 by omega]
      simpa using h5

/-- Names given anew, what is not kept dropped. -/
theorem ghostK_rn {G : Globs} (k0 : Nat) (ps : List Nat) {s : AState} (h1 : okVs (keptK k0 ps) s.tmps = true) (h2 : okH (keptK k0 ps) s.locs = true) (h3 : okH (keptK k0 ps) (restrictH (keptK k0 ps) s.heap) = true) :
    GhostK G k0 s ⟨rnL (rhoK k0 ps) s.tmps, rnH (rhoK k0 ps) s.locs, rnH (rhoK k0 ps) (restrictH (keptK k0 ps) s.heap), k0 + ps.length⟩ := by
  intro w R N tmps bsT bsL bsH bsF hr
  let N2 : Name → Option Nat := fun m => match m with | .loc i => N (.loc i) | .out x => if x < k0 then N (.out x) else (match ps[x - k0]? with | some o => N (.out o) | none => none)
  have hL : ∀ i b, N (.loc i) = some b → N2 (.loc i) = some b := fun _ _ h => h
  have hM : ∀ o b, keptK k0 ps o = true → N (.out o) = some b → N2 (.out (rhoK k0 ps o)) = some b := by
    intro o b ho hb
    unfold keptK at ho
    unfold rhoK
    cases hlt : Nat.blt o k0 with
    | true =>
      dsimp only [N2]
      rw [if_pos (blt_to hlt)]; exact hb
    | false =>
      rw [hlt, Bool.false_or] at ho
      obtain ⟨q1, q2, q3⟩ := idxN_lt (k := k0) ho
      dsimp only [N2]
      rw [if_neg (by omega), q3]
      exact hb
  obtain ⟨bs', k1, k2⟩ := restrictH_rep (keptK k0 ps) hr.heap
  refine ⟨R, N2, bsT, bsL, bs', ⟨repV_undef _, hr.tmps.rnP hL hM h1, hr.locs.rnP hL hM h2, ?_, ?_, ?_, hr.glob, hr.frame⟩, keep_refl _, ?_⟩
  · refine k1.rnP (M := outs N) (M2 := outs N2) (fun i b h => h) (fun o b ho hb => hM o b ho hb) h3
  · refine List.Nodup.sublist ?_ hr.nodup
    exact List.Sublist.append (.refl _) (List.Sublist.append (.refl _) (List.Sublist.append (.refl _) (List.Sublist.append k2 (.refl _))))
  · intro x b hx
    dsimp only [N2] at hx
    split at hx
    · rename_i hlt
      show x < k0 + ps.length
      omega
    · split at hx
      · rename_i o ho
        have := (List.getElem?_eq_some_iff.1 ho).1
        show x < k0 + ps.length
        omega
      · simp at hx
  · intro o b ho hb
    dsimp only [N2]
    rw [if_pos ho]; exact hb
end Go.Tp
namespace Go.Tp
variable {E : TEnv}

/-- Appending to a row of one's own. -/
theorem ans_app {t : TypeId} {i : TI} {es ds : List Dat} {ob : Option AObj} {take : Bool} {k : Nat} (he : elemOf E t = some i) (hp : E.pr = Prims.fast) (hs : i.size = k + 1) (hd : sizedB (k + 1) ds = true) (hes : sizedB (k + 1) es = true)
    (hb : Nat.blt 0 i.bytes = true) (hl : (es.length + ds.length) * i.bytes ≤ 140737488355328) (hl2 : es.length + ds.length ≤ lim) (hby : byteOk E t (es ++ ds) = true) (htake : (take && es.isEmpty && isMore (.dat (.slice ds))) = false) :
    aAppend E take t [.own es, .dat (.slice ds)] ob = some ⟨.own (es ++ ds), .keep⟩ := by
  simp only [aAppend, he]
  rw [if_neg (by rw [htake]; simp)]
  simp only [appendTo, hp, hs, Prims.fast, hd, hes, hb, ble_mk hl, ble_mk hl2]
  rw [if_pos hby]

/-- An element, by its number. -/
theorem ans_idx {t : TypeId} {ti : TI} {es : List Dat} {i : Nat} {d : Dat} (he : elemOf E t = some ti) (hp : E.pr = Prims.fast) (h : es[i]? = some d) (hs : d.cells.length = ti.size) (h0 : 0 < ti.size) :
    aIndexAddr E t [.dat (.slice es), .dat (.flat (.int .i64 (Int.ofNat i)))] = some ⟨.ref d.cells, .keep⟩ := by
  have hel : E.pr.elt es (Int.ofNat i) = some d := by rw [hp]; exact fast_elt h
  simp only [aIndexAddr, he, hel]
  rw [if_pos ⟨hs, h0⟩]

theorem getF_of {α : Type} {l : List α} {i : Nat} {a : α} (h : l[i]? = some a) : getF l i = some a := by rw [getF_eq]; exact h

theorem sizedB_of {k : Nat} {l : List Dat} (h : ∀ d ∈ l, d.cells.length = k) : sizedB k l = true := sizedB_iff.2 h

theorem ltF_of {i L : Nat} : ltF (Int.ofNat i) (Int.ofNat L) = decide (i < L) := by rw [ltF_eq]; simp
theorem ltF_yes {i L : Nat} (h : i < L) : ltF (Int.ofNat i) (Int.ofNat L) = true := by rw [ltF_of, decide_eq_true h]
theorem ltF_no {i L : Nat} (h : ¬ i < L) : ltF (Int.ofNat i) (Int.ofNat L) = false := by rw [ltF_of, decide_eq_false h]
theorem wrap_of {i : Nat} (h : i < 9223372036854775807) : wrapF .i64 (Int.ofNat i + 1) = Int.ofNat (i + 1) := by
  rw [wrapF_eq]
  exact wrap_i64 (by simp; omega) (by simp; omega)
theorem eqF_of {i L : Nat} : eqF (Int.ofNat i) (Int.ofNat L) = decide (i = L) := by
  rw [eqF_eq]
  by_cases h : i = L
  · subst h; simp
  · rw [decide_eq_false h]
    simp only [beq_eq_false_iff_ne]
    exact fun e => h (Int.ofNat.inj e)
end Go.Tp
namespace Go.Tp

/-- The rounds of the loops in a piece of code, in the order of the text. -/
noncomputable def loopsIn (c : Code) : List Code :=
  Code.rec (motive := fun _ => List Code)
    (skip := []) (region := fun _ _ _ => []) (seq := fun _ _ ix iy => ix ++ iy) (cond := fun _ _ _ ix iy => ix ++ iy) (block := fun _ _ ic => ic) (loop := fun c ic => c :: ic)
    (rangeFunc := fun _ _ _ _ _ _ => []) (exit := fun _ => []) (scope := fun _ ic => ic) (label := fun _ => []) (goto := fun _ => []) (ret := []) (refuse := fun _ => []) c
noncomputable def roundOf (fn : Func) (k : Nat) : Code := match (loopsIn (match fn.body with | some c => c | none => .skip))[k]? with | some c => c | none => .skip

/-- A set of numbers. -/
def inL (l : List Nat) (t : Nat) : Bool := memN t l

/-! ### Pointers that a callee does not look at -/
mutual
def npV : AVal → AVal
  | .ptr _ _ => .undef
  | .map _ => .undef
  | .win _ _ _ _ => .undef
  | .fn f a b => .fn f (npL a) (npL b)
  | .agg cs => .agg (npL cs)
  | .tup cs => .tup (npL cs)
  | a => a
def npL : List AVal → List AVal
  | [] => []
  | a :: r => npV a :: npL r
end
section
variable {w : World} {R : Own} {M M2 : Name → Option Nat}
mutual
theorem RepV.np : ∀ {a : AVal} {v : Value} {bs : List Nat}, RepV w R M a v bs → RepV w R M2 (npV a) v bs
  | .dat _, _, _, h => by simp only [npV, RepV] at h ⊢; exact h
  | .own _, _, _, h => by simp only [npV, RepV] at h ⊢; exact h
  | .ref _, _, _, h => by simp only [npV, RepV] at h ⊢; exact h
  | .undef, _, _, h => by simp only [npV, RepV] at h ⊢; exact h
  | .ptr _ _, _, _, h => by simp only [npV, RepV] at h ⊢; exact h.1
  | .map _, _, _, h => by simp only [npV, RepV] at h ⊢; exact h.1
  | .win _ _ _ _, _, _, h => by simp only [npV, RepV] at h ⊢; exact h.1
  | .fn f a b, _, _, h => by
    simp only [npV, RepV] at h ⊢
    obtain ⟨h1, vs, us, e, h2, h3⟩ := h
    exact ⟨h1, vs, us, e, RepVs.np h2, RepVs.np h3⟩
  | .agg cs, _, _, h => by
    simp only [npV, RepV] at h ⊢
    obtain ⟨vs, e, h⟩ := h
    exact ⟨vs, e, RepVs.np h⟩
  | .tup cs, _, _, h => by
    simp only [npV, RepV] at h ⊢
    obtain ⟨vs, e, h⟩ := h
    exact ⟨vs, e, RepVs.np h⟩
theorem RepVs.np : ∀ {as : List AVal} {vs : List Value} {bs : List Nat}, RepVs w R M as vs bs → RepVs w R M2 (npL as) vs bs
  | [], _, _, h => by simp only [npL, RepVs] at h ⊢; exact h
  | a :: r, _, _, h => by
    simp only [npL, RepVs] at h ⊢
    obtain ⟨v, vs', b1, b2, e1, e2, h1, h2⟩ := h
    exact ⟨v, vs', b1, b2, e1, e2, RepV.np h1, RepVs.np h2⟩
end
end

section
variable {P : Program} {G : Globs} {α : Type} {T : α → Prop}
theorem np_frame {g : FuncId} {args : List AVal} {Q : AVal → Prop} (hQ : ∀ v, Q v → nmF v = true) (h : ACalls P G g (npL args) [] 0 (fun v h m => Q v ∧ h = [] ∧ m = 0)) (heap : Heap) (next : Nat) : ACalls P G g args heap next (fun v h m => Q v ∧ h = heap ∧ m = next) := by
  intro w R N cargs bsA bsH bsF hargs hheap hnd hnx hglob hF
  have h2 := h w R (fun _ => none) cargs bsA [] (bsH ++ bsF) hargs.np (by simp [RepObjs]) (by simpa using hnd) (by intro o b ho; simp at ho) hglob (by
    intro b hb
    rcases List.mem_append.1 hb with hb | hb
    · exact hheap.lt b hb
    · exact hF b hb)
  refine h2.mono ?_
  rintro e w' ⟨v, cv, heap', next', R', N', bsV, bsH', rfl, ⟨hq, rfl, rfl⟩, hv, hh, hnd', _, hk, _⟩
  have hH' : bsH' = [] := by simpa [RepObjs] using hh
  subst hH'
  exact ⟨_, cv, heap, next, R', N, bsV, bsH, rfl, ⟨hq, rfl, rfl⟩, hv.nm (hQ _ hq), hheap.keep (hk.sub (by intro b hb; simp [hb])), by simpa using hnd', hnx, hk.sub (by intro b hb; simp [hb]), fun _ _ h => h⟩
/-- A call that looks at no object, whatever it is handed. -/
theorem ok_np {q : Qy α} {g : FuncId} {args0 : List AVal} {v : AVal} (hc : ACalls P G g args0 [] 0 (XQ ⟨v, [], 0⟩)) (e : q.fn? = some g) (ha : npL q.argsR = args0) (hm : nmF v = true)
    (h : bndV v → (q.ofR ⟨v, q.heapR, q.nextR⟩).Ok P G T) : q.Ok P G T := by
  cases q with
  | res g' args' heap next' k =>
    simp only [Qy.fn?, Option.some.injEq] at e
    subst e
    simp only [Qy.heapR, Qy.argsR, Qy.nextR] at ha h
    show ACalls P G g' _ heap next' _
    subst ha
    have h1 : ACalls P G g' (npL args') [] 0 (fun u h m => u = v ∧ h = [] ∧ m = 0) := hc.mono (by rintro u h m ⟨rfl, rfl, rfl⟩; exact ⟨rfl, rfl, rfl⟩)
    refine (np_frame (Q := fun u => u = v) (by rintro u rfl; exact hm) h1 heap next').mono ?_
    rintro v' h' m ⟨rfl, rfl, rfl⟩ b1 b2
    exact h b1
  | _ => simp [Qy.fn?] at e
/-- .. whose value is only known by a property. -/
theorem ok_npQ {q : Qy α} {g : FuncId} {args0 : List AVal} {Q : AVal → Prop} (hc : ACalls P G g args0 [] 0 (fun v h m => Q v ∧ h = [] ∧ m = 0)) (e : q.fn? = some g) (ha : npL q.argsR = args0) (hQ : ∀ v, Q v → nmF v = true)
    (h : ∀ v, Q v → bndV v → (q.ofR ⟨v, q.heapR, q.nextR⟩).Ok P G T) : q.Ok P G T := by
  cases q with
  | res g' args' heap next' k =>
    simp only [Qy.fn?, Option.some.injEq] at e
    subst e
    simp only [Qy.heapR, Qy.argsR, Qy.nextR] at ha h
    show ACalls P G g' _ heap next' _
    subst ha
    refine (np_frame hQ hc heap next').mono ?_
    rintro v' h' m ⟨hq, rfl, rfl⟩ b1 b2
    exact h v' hq b1
  | _ => simp [Qy.fn?] at e

/-- A call whose outcome is one. -/
theorem ok_call {q : Qy α} {g : FuncId} {args0 : List AVal} {h0 : Heap} {n0 : Nat} {r : XRes} (hc : ACalls P G g args0 h0 n0 (XQ r)) (ps : List Nat)
    (hf : fitsF args0 h0 n0 = true) (e : q.fn? = some g) (ha : q.argsR = rnL (rhoL ps) args0) (hg : gotH (namesH (rnH (rhoL ps) h0)) q.heapR = rnH (rhoL ps) h0) (hn : noLocs (gotH (namesH (rnH (rhoL ps) h0)) q.heapR) = true)
    (h : bndV (rnV (liftN (rhoL ps) n0 q.nextR) r.val) → (q.ofR ⟨rnV (liftN (rhoL ps) n0 q.nextR) r.val, sortH (rnH (liftN (rhoL ps) n0 q.nextR) r.heap ++ restH (namesH (rnH (rhoL ps) h0)) q.heapR), q.nextR + (r.next - n0)⟩).Ok P G T) : q.Ok P G T := by
  refine ok_res hc ps hf e ha hg hn ?_
  rintro v h' m ⟨rfl, rfl, rfl⟩ b
  exact h b
/-- A call as it stands. -/
theorem ok_here {q : Qy α} {g : FuncId} {args : List AVal} {heap : Heap} {next : Nat} {r : XRes} (hc : ACalls P G g args heap next (XQ r)) (e : q.fn? = some g) (ha : q.argsR = args) (hh : q.heapR = heap) (hn : q.nextR = next)
    (h : (q.ofR r).Ok P G T) : q.Ok P G T := by
  cases q with
  | res g' args' heap' next' k =>
    simp only [Qy.fn?, Option.some.injEq] at e
    simp only [Qy.heapR, Qy.argsR, Qy.nextR] at ha hh hn
    subst e
    subst ha
    subst hh
    subst hn
    show ACalls P G g' _ heap' next' _
    refine hc.mono ?_
    rintro v h' m ⟨rfl, rfl, rfl⟩ b1 b2
    exact h
  | _ => simp [Qy.fn?] at e

theorem acalls_eq {g : FuncId} {args : List AVal} {heap : Heap} {next : Nat} {r : XRes} (h : ACalls P G g args heap next (fun v h m => (⟨v, h, m⟩ : XRes) = r)) : ACalls P G g args heap next (XQ r) := by
  refine h.mono ?_
  rintro v h m e
  subst e
  exact ⟨rfl, rfl, rfl⟩

theorem stays_new {h h' : Heap} {k : Name} {o : AObj} (hk : agetF k h = none) (hs : Stays h h') : Stays h ((k, o) :: h') := by
  intro n ob hn
  rw [agetF_eq] at hk
  have hne : k ≠ n := by
    intro e
    subst e
    rw [hk] at hn
    simp at hn
  simp only [aget]
  rw [if_neg hne]
  exact hs n ob hn

/-- Code that is run to its end. -/
theorem code_run {E : TEnv} {H : Hints} {n : Nat} {X : XCalls} (hE : E.Ok P) (hX : XOk P G X) {live : Nat → Nat} (fuel : Nat) {c : Code} (hc : chkAll H c = true) {f f' : FState} {e : Exit} (h : fcode X E G H n live fuel c f = some (e, f')) :
    ACode P G c (fun e2 s => e2 = e ∧ s = f'.toA n) (f.toA n) := fcode_sound X E G H n hE hX live fuel c f f' e hc h _ ⟨rfl, rfl⟩

/-- A loop that counts. -/
theorem loop_count {c : Code} {T : Exit → AState → Prop} (St : Nat → AState) (L : Nat) (round : ∀ i, i < L → ACode P G c (seqQ (fun s => s = St (i + 1)) T) (St i))
    (last : ACode P G c (seqQ (fun _ => False) T) (St L)) {i : Nat} (hi : i ≤ L) : ACode P G (.loop c) T (St i) := by
  refine loopM (I := fun m s => ∃ j, j ≤ L ∧ m = L - j ∧ s = St j) ?_ (m := L - i) ⟨i, hi, rfl, rfl⟩
  rintro m s ⟨j, hj, rfl, rfl⟩
  by_cases h : j < L
  · refine (round j h).mono ?_
    intro e s hs
    cases e with
    | normal =>
      have hs : s = St (j + 1) := hs
      exact ⟨L - (j + 1), by omega, j + 1, by omega, rfl, hs⟩
    | _ => exact hs
  · have : j = L := by omega
    subst this
    refine last.mono ?_
    intro e s hs
    cases e with
    | normal => exact hs.elim
    | _ => exact hs
end
end Go.Tp
