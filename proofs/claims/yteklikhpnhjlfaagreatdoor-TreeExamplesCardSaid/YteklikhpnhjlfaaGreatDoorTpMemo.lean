/- The generic layer: calls whose outcome has been reckoned before. -/
import Derived.Test.YteklikhpnhjlfaaGreatDoorTpFrun2
namespace Go.Tp

/-- A call and its outcome. -/
structure Memo where
  fn : FuncId
  args : List AVal
  heap : Heap
  next : Nat
  res : XRes

def memoX : List Memo → XCalls
  | [] => fun _ _ _ _ => none
  | m :: l => fun g args heap next =>
    match Nat.beq m.fn g with
    | false => memoX l g args heap next
    | true => (match Nat.beq m.next next && eqAs m.args args && eqHs m.heap heap with
      | true => some m.res
      | false => memoX l g args heap next)

def orX (X Y : XCalls) : XCalls := fun g args heap next => match X g args heap next with | some r => some r | none => Y g args heap next

variable {P : Program} {G : Globs}
theorem memoX_ok : ∀ {l : List Memo}, (∀ m ∈ l, ACalls P G m.fn m.args m.heap m.next (XQ m.res)) → XOk P G (memoX l)
  | [], _ => by intro f args heap next r h; simp [memoX] at h
  | m :: l, hall => by
    intro f args heap next r h
    have ih := memoX_ok (l := l) fun m hm => hall m (by simp [hm])
    simp only [memoX] at h
    split at h
    · exact ih f args heap next r h
    · rename_i hf
      have hf := Nat.eq_of_beq_eq_true hf
      split at h
      · rename_i hc
        simp only [Bool.and_eq_true] at hc
        have h1 := Nat.eq_of_beq_eq_true hc.1.1
        have h2 := eqAs_spec hc.1.2
        have h3 := eqHs_spec hc.2
        subst hf; subst h1; subst h2; subst h3
        simp only [Option.some.injEq] at h
        subst h
        exact hall m (by simp)
      · exact ih f args heap next r h

theorem orX_ok {X Y : XCalls} (hX : XOk P G X) (hY : XOk P G Y) : XOk P G (orX X Y) := by
  intro f args heap next r h
  unfold orX at h
  split at h
  · rename_i r' hr
    simp only [Option.some.injEq] at h
    subst h
    exact hX _ _ _ _ _ hr
  · exact hY _ _ _ _ _ h
end Go.Tp
