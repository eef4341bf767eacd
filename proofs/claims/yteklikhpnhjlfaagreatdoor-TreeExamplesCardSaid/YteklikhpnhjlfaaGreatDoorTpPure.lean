/- The generic layer: calls that look at no object, reckoned apart: they give the same beside whatever objects. -/
import Derived.Test.YteklikhpnhjlfaaGreatDoorTpMemo
namespace Go.Tp

mutual
/-- Values that name no object. -/
def nmF : AVal → Bool
  | .dat _ => true
  | .own _ => true
  | .ref _ => true
  | .undef => true
  | .agg cs => nmFL cs
  | .tup cs => nmFL cs
  | .fn _ x y => nmFL x && nmFL y
  | .ptr _ _ => false
  | .map _ => false
  | .win _ _ _ _ => false
def nmFL : List AVal → Bool
  | [] => true
  | a :: r => nmF a && nmFL r
end

section
variable {w : World} {R : Own} {N N' : Name → Option Nat}
mutual
theorem RepV.nm : ∀ {a : AVal} {v : Value} {bs : List Nat}, RepV w R N a v bs → nmF a = true → RepV w R N' a v bs
  | .dat _, _, _, h, _ => by simp only [RepV] at h ⊢; exact h
  | .own _, _, _, h, _ => by simp only [RepV] at h ⊢; exact h
  | .ref _, _, _, h, _ => by simp only [RepV] at h ⊢; exact h
  | .ptr _ _, _, _, _, hn => by simp [nmF] at hn
  | .map _, _, _, _, hn => by simp [nmF] at hn
  | .win _ _ _ _, _, _, _, hn => by simp [nmF] at hn
  | .fn _ x y, _, _, h, hn => by
    simp only [nmF, Bool.and_eq_true] at hn
    simp only [RepV] at h ⊢
    obtain ⟨h1, vs, us, e, h2, h3⟩ := h
    exact ⟨h1, vs, us, e, RepVs.nm (l := x) h2 hn.1, RepVs.nm (l := y) h3 hn.2⟩
  | .agg cs, _, _, h, hn => by
    simp only [nmF] at hn
    simp only [RepV] at h ⊢
    obtain ⟨vs, e, h⟩ := h
    exact ⟨vs, e, RepVs.nm (l := cs) h hn⟩
  | .tup cs, _, _, h, hn => by
    simp only [nmF] at hn
    simp only [RepV] at h ⊢
    obtain ⟨vs, e, h⟩ := h
    exact ⟨vs, e, RepVs.nm (l := cs) h hn⟩
  | .undef, _, _, h, _ => by simp only [RepV] at h ⊢; exact h
theorem RepVs.nm : ∀ {l : List AVal} {vs : List Value} {bs : List Nat}, RepVs w R N l vs bs → nmFL l = true → RepVs w R N' l vs bs
  | [], _, _, h, _ => by simp only [RepVs] at h ⊢; exact h
  | a :: l, _, _, h, hn => by
    simp only [nmFL, Bool.and_eq_true] at hn
    simp only [RepVs] at h ⊢
    obtain ⟨v, vs', b1, b2, e1, e2, h1, h2⟩ := h
    exact ⟨v, vs', b1, b2, e1, e2, RepV.nm (a := a) h1 hn.1, RepVs.nm (l := l) h2 hn.2⟩
end
end

/-- A call that looks at no object, and its value. -/
structure PMemo where
  fn : FuncId
  args : List AVal
  val : AVal

def PMemo.ok (m : PMemo) : Bool := nmFL m.args && nmF m.val

def pmemoX : List PMemo → XCalls
  | [] => fun _ _ _ _ => none
  | m :: l => fun g args heap next =>
    match Nat.beq m.fn g with
    | false => pmemoX l g args heap next
    | true => (match eqAs m.args args with
      | true => some ⟨m.val, heap, next⟩
      | false => pmemoX l g args heap next)

variable {P : Program} {G : Globs}
theorem pure_frame {m : PMemo} (hm : m.ok = true) (h : ACalls P G m.fn m.args [] 0 (XQ ⟨m.val, [], 0⟩)) (heap : Heap) (next : Nat) : ACalls P G m.fn m.args heap next (XQ ⟨m.val, heap, next⟩) := by
  unfold PMemo.ok at hm
  simp only [Bool.and_eq_true] at hm
  intro w R N cargs bsA bsH bsF hargs hheap hnd hnx hglob hF
  have h2 := h w R (fun _ => none) cargs bsA [] (bsH ++ bsF) (hargs.nm hm.1) (by simp [RepObjs]) (by simpa using hnd) (by intro o b ho; simp at ho) hglob (by
    intro b hb
    rcases List.mem_append.1 hb with hb | hb
    · exact hheap.lt b hb
    · exact hF b hb)
  refine h2.mono ?_
  rintro e w' ⟨v, cv, heap', next', R', N', bsV, bsH', rfl, ⟨rfl, rfl, rfl⟩, hv, hh, hnd', _, hk, _⟩
  have hH' : bsH' = [] := by simpa [RepObjs] using hh
  subst hH'
  exact ⟨_, cv, heap, next, R', N, bsV, bsH, rfl, ⟨rfl, rfl, rfl⟩, hv.nm hm.2, hheap.keep (hk.sub (by intro b hb; simp [hb])), by simpa using hnd', hnx, hk.sub (by intro b hb; simp [hb]), fun _ _ h => h⟩

theorem pmemoX_ok : ∀ {l : List PMemo}, (∀ m ∈ l, m.ok = true ∧ ACalls P G m.fn m.args [] 0 (XQ ⟨m.val, [], 0⟩)) → XOk P G (pmemoX l)
  | [], _ => by intro f args heap next r h; simp [pmemoX] at h
  | m :: l, hall => by
    intro f args heap next r h
    have ih := pmemoX_ok (l := l) fun m hm => hall m (by simp [hm])
    simp only [pmemoX] at h
    split at h
    · exact ih f args heap next r h
    · rename_i hf
      have hf := Nat.eq_of_beq_eq_true hf
      split at h
      · rename_i hc
        have h2 := eqAs_spec hc
        subst hf
        subst h2
        simp only [Option.some.injEq] at h
        subst h
        obtain ⟨q1, q2⟩ := hall m (by simp)
        exact pure_frame q1 q2 heap next
      · exact ih f args heap next r h
end Go.Tp
