/- The generic layer: pieces of code put together; from a call that is run to what a row asks. -/
import Derived.Test.YteanmfacikjjhaaGreatDoorTpFrun2
import Derived.Deep.Slices
import Derived.ChangeSame
import Derived.LaidLaws
import Derived.RowKit
namespace Go.Tp
open Go.Deep

/-! ### Pieces of code -/
section
variable {X : XCalls} {E : TEnv} {G : Globs} {H : Hints} {n : Nat} {live : Nat → Nat} {fuel : Nat}
theorem fseq_norm {x y : Code} {f f1 : FState} (h : fcode X E G H n live fuel x f = some (.normal, f1)) : fcode X E G H n live fuel (.seq x y) f = fcode X E G H n live fuel y f1 := by
  rw [fcode_seq, h]
theorem fseq_assoc (x y z : Code) (f : FState) : fcode X E G H n live fuel (.seq (.seq x y) z) f = fcode X E G H n live fuel (.seq x (.seq y z)) f := by
  rw [fcode_seq, fcode_seq, fcode_seq]
  cases fcode X E G H n live fuel x f with
  | none => rfl
  | some r =>
    obtain ⟨e, f1⟩ := r
    cases e <;> first | rfl | (dsimp only; rw [fcode_seq])
theorem fseq_congr {x y y' : Code} (h : ∀ f, fcode X E G H n live fuel y f = fcode X E G H n live fuel y' f) (f : FState) : fcode X E G H n live fuel (.seq x y) f = fcode X E G H n live fuel (.seq x y') f := by
  rw [fcode_seq, fcode_seq]
  cases fcode X E G H n live fuel x f with
  | none => rfl
  | some r =>
    obtain ⟨e, f1⟩ := r
    cases e <;> first | rfl | exact h f1
theorem fblock_exit {id : Nat} {c : Code} {f f1 : FState} (h : fcode X E G H n live fuel c f = some (.exit id, f1)) : fcode X E G H n live fuel (.block id c) f = some (.normal, f1) := by
  rw [fcode_block, h]
  have : Nat.beq id id = true := by rw [Nat.beq_eq]
  simp only [this]
theorem floop_step {body : FState → Option (Exit × FState)} {f f1 : FState} {k : Nat} (h : body f = some (.normal, f1)) : floop body (k + 1) f = floop body k f1 := by
  have e : floop body (k + 1) f = (match body f with
    | some (.normal, f') => floop body k f'
    | r => r) := rfl
  rw [e, h]
theorem floop_exit {body : FState → Option (Exit × FState)} {f f1 : FState} {k id : Nat} (h : body f = some (.exit id, f1)) : floop body (k + 1) f = some (.exit id, f1) := by
  have e : floop body (k + 1) f = (match body f with
    | some (.normal, f') => floop body k f'
    | r => r) := rfl
  rw [e, h]
theorem fcode_loop {c : Code} {f : FState} : fcode X E G H n live fuel (.loop c) f = floop (fcode X E G H n live fuel c) fuel f := rfl
end

/-- A function whose body is run in pieces. -/
theorem acalls_of_run0 {P : Program} {X : XCalls} {E : TEnv} {G : Globs} {moves caps : FuncId → Bool} {ord : Nat → RHint} {live : Nat → Nat} {fuel : Nat} (hE : E.Ok P) (hX : XOk P G X) {f : FuncId} {fn : Func} {c : Code} (hf : P.funcs[f]? = some fn) (hb : fn.body = some c) (hck : chkAll ⟨moves, ord, caps, rowsOf caps f⟩ c = true)
    {args : List AVal} {heap : Heap} {next : Nat} {fs : FState} {r : XRes} (hlen : args.length ≤ fn.ntmps) (h : fcode X E G ⟨moves, ord, caps, rowsOf caps f⟩ fn.ntmps live fuel c ⟨slOf 0 args, [], heap, next⟩ = some (.ret, fs)) (hr : fret E fn.ntmps fn.results.toList fs = some r) :
    ACalls P G f args heap next (XQ r) := by
  refine acalls_of_acode hE hf hb ?_
  intro _ _
  have hent : (⟨slOf 0 args, [], heap, next⟩ : FState).toA fn.ntmps = enter fn.ntmps args heap next := by
    simp only [FState.toA, enter]
    congr 1
    apply List.ext_getElem?
    intro i
    rw [mkS_get, Nat.zero_add, slOf_get, if_pos (Nat.zero_le _), Nat.sub_zero, List.getElem?_append]
    split
    · split
      · rename_i hi; unfold getT; rw [List.getElem?_eq_getElem hi]
      · rename_i hi1 hi
        rw [List.getElem?_replicate, if_pos (by omega)]
        unfold getT
        rw [List.getElem?_eq_none (by omega)]
    · rename_i hi
      rw [if_neg (by omega), List.getElem?_replicate, if_neg (by omega)]
  rw [← hent]
  refine fcode_sound _ E G ⟨moves, ord, caps, rowsOf caps f⟩ fn.ntmps hE hX live fuel c _ _ _ hck h _ ?_
  exact xret_sound (E := E) (rs := fn.results.toList) (s := fs.toA fn.ntmps) (r := r) (by rw [fret_eq]; exact hr)

theorem acalls_of_run {P : Program} {X : XCalls} {E : TEnv} {G : Globs} {moves caps : FuncId → Bool} {ord : Nat → RHint} {live : Nat → Nat} {fuel : Nat} (hE : E.Ok P) (hX : XOk P G X) {f : FuncId} {fn : Func} {c : Code} (hf : P.funcs[f]? = some fn) (hb : fn.body = some c) (hck : chkAll ⟨moves, ord, caps, rowsOf caps f⟩ c = true)
    {args : List AVal} {heap : Heap} {next : Nat} {fs : FState} {r : XRes} (hlen : args.length ≤ fn.ntmps) (h : fcode X E G ⟨moves, ord, caps, rowsOf caps f⟩ fn.ntmps live fuel c ⟨slOf 0 args, [], heap, next⟩ = some (.ret, fs)) (hr : fret E fn.ntmps fn.results.toList fs = some r) :
    ACalls P G f args heap next (XQ (gcR next r)) := ACalls.gc (acalls_of_run0 hE hX hf hb hck hlen h hr)

/-! ### The last step -/
/-- No cell may be written: what a call that comes from outside finds. -/
def noOwn : Own := fun _ _ => False

/-- A package-level variable that holds a slice of strings. -/
theorem glob_strs {P : Program} {W : World} {name : String} {g : Nat} {t e : TypeId} {l : List (List UInt8)} (hg : P.globalNamed name = some g) (hty : (P.globals[g]?).map (·.type) = some t) (ht : P.underlying t = some (.slice e)) (he : P.underlying e = some .string) (hc : P.cellsOf e = 1)
    (hlen : l.length ≤ lim) (h : ∃ g t cs fuel p, P.globalNamed name = some g ∧ (P.globals[g]?).map (·.type) = some t ∧ W.var? P name = some cs ∧ DataW.trod (fun _ => ()) P W 0 (fun _ => true) false fuel t cs.toList = some (.slice (l.map fun b => .lit (.string b)) [], p)) :
    RepAt W noOwn g 0 [.slice (l.map fun b => .flat (.string ⟨⟨b⟩⟩))] := by
  obtain ⟨g', t', cs, fuel, p, hg', ht', hvar, hd⟩ := h
  obtain rfl := Option.some.inj (hg.symm.trans hg')
  obtain rfl := Option.some.inj (hty.symm.trans ht')
  have hcell := World.var?_cell hg hvar 0
  refine ⟨?_, trivial⟩
  rcases open_slice1 ht hc hd with ⟨_, h0⟩ | ⟨a, len, cap, m, k, V, D, Pl, hcs, _, hl, hm, hmm, hx, hi⟩
  · simp at h0
  have h0 : cs[0]? = some (.slice (some a) len cap) := by
    have : cs.toList[0]? = some (.slice (some a) len cap) := by rw [hcs]; rfl
    simpa using this
  refine ⟨_, hcell.trans h0, fun h => h, ?_⟩
  simp only [Prod.mk.injEq, DataW.slice.injEq] at hx
  obtain ⟨⟨hx1, _⟩, _⟩ := hx
  have hll : l.length = len := by have := congrArg List.length hx1; simpa using this
  have hlm : len ≤ m := by rw [hmm]; split <;> omega
  have hel : ∀ (i : Nat) b, l[i]? = some b → V i = .string ⟨⟨b⟩⟩ ∧ b.length ≤ maxLen := by
    intro i b hb
    have hil : i < len := by rw [← hll]; exact (List.getElem?_eq_some_iff.1 hb).1
    obtain ⟨_, h2⟩ := hi i (by omega)
    obtain ⟨s, e1, e2, e3⟩ := DataW.trod_string he h2
    have h3 : ((List.range len).map D)[i]? = (l.map fun b => (DataW.lit (.string b) : DataW Unit))[i]? := by rw [hx1]
    rw [List.getElem?_map, List.getElem?_map, hb, List.getElem?_range hil] at h3
    simp only [Option.map_some, Option.some.injEq] at h3
    simp only [List.cons.injEq, and_true] at e1
    simp only [Prod.mk.injEq] at e2
    rw [h3] at e2
    simp at e2
    obtain ⟨⟨sl⟩⟩ := s
    simp at e2
    rw [e1, e2.1]
    exact ⟨rfl, e3⟩
  cases hz : len with
  | zero =>
    have : l = [] := List.length_eq_zero_iff.1 (by omega)
    subst this
    exact .nil _ _
  | succ k0 =>
    have hsp : a.spot = none := by
      have := (hi 0 (by omega)).1
      have := World.cell?_spot this
      simpa [Addr.add] using this
    obtain ⟨b, off, spot⟩ := a
    simp only at hsp
    subst hsp
    have e : k0 + 1 = (l.map fun b => (Dat.flat (.string ⟨⟨b⟩⟩) : Dat)).length := by simp; omega
    rw [e]
    refine .slice b off cap 1 _ (fun i _ => V i) (by omega) ?_ (by simp; omega) (by simpa using hlen) ?_ ?_
    · intro d hd
      obtain ⟨x, _, rfl⟩ := List.mem_map.1 hd
      rfl
    · intro i j hil hj
      obtain rfl : j = 0 := by omega
      simp at hil
      refine ⟨?_, fun h => h⟩
      have := (hi i (by omega)).1
      simp only [Addr.add] at this
      simp only [Nat.mul_one, Nat.add_zero]
      split at this
      · rename_i h0; subst h0; exact this
      · exact this
    · intro i j d c hd hc
      rw [List.getElem?_map] at hd
      cases hb : l[i]? with
      | none => rw [hb] at hd; simp at hd
      | some x =>
        rw [hb] at hd
        simp at hd
        subst hd
        obtain ⟨e1, e2⟩ := hel i x hb
        have : c = .flat (.string ⟨⟨x⟩⟩) := by
          cases j with
          | zero => simp [Dat.cells] at hc; exact hc.symm
          | succ j => simp [Dat.cells] at hc
        subst this
        rw [e1]
        refine .flat ?_
        simp only [isFlat, decide_eq_true_eq]
        have : (ByteArray.mk ⟨x⟩).size = x.length := rfl
        rw [this]
        unfold maxLen at e2
        omega

theorem keptBut_of_step {W W' : World} {R' : Own} (h : Step W noOwn W' R') : W.keptBut W' (fun _ => False) := by
  refine ⟨h.os, h.output, fun i hi => ?_⟩
  rw [(h.block i hi (fun _ h => h)).1]
  split
  · rename_i e1 e2
    rw [e1] at e2
    simp at e2
    obtain ⟨rfl, rfl, rfl⟩ := e2
    exact ⟨rfl, rfl, rfl, fun _ _ => rfl⟩
  · rename_i e1 e2
    rw [e1] at e2
    simp at e2
    obtain ⟨rfl, rfl⟩ := e2
    exact .inr ⟨rfl, rfl⟩
  · rfl

/-- A call with scalars alone, in a world that holds the package-level variables: what comes back, and that all else stays. -/
theorem calls_of_acalls {P : Program} {G : Globs} {f : FuncId} {args : List Value} {b : Bool} {r : XRes} (hflat : ∀ v ∈ args, isFlat v = true) (h : ACalls P G f (args.map aval) [] 0 (XQ r)) (hr : r.val = bv b) (W : World) (hG : ∀ g cs, G g = some cs → RepAt W noOwn g 0 cs) :
    Calls P f args.toArray W fun e W' => e = .returned (.bool b) ∧ W.keptBut W' (fun _ => False) := by
  have ha : RepVs W noOwn (outs fun _ => none) (args.map aval) args [] := by
    clear h
    induction args with
    | nil => exact repVs_nil
    | cons v vs ih =>
      have := repVs_cons (b1 := []) (b2 := []) (repV_flat (w := W) (R := noOwn) (N := outs fun _ => none) (hflat v (by simp))) (ih (fun x hx => hflat x (by simp [hx])))
      simpa using this
  refine (h W noOwn (fun _ => none) args [] [] [] ha rfl (by simp) (by intro o b h; simp at h) hG (by simp)).mono ?_
  rintro e W' ⟨v, cv, heap', next', R', N', bsV, bsH', rfl, ⟨rfl, _, _⟩, hv, _, _, _, hk, _⟩
  rw [hr] at hv
  obtain ⟨_, rfl, _⟩ := repV_flat_inv hv
  refine ⟨rfl, ?_⟩
  have hst := hk.step
  refine keptBut_of_step hst

end Go.Tp
