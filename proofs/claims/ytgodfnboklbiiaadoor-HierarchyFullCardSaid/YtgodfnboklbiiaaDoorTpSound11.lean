/- The generic layer: operands, and what each operation does, in one form. -/
import Derived.Test.YtgodfnboklbiiaaDoorTpSound10
namespace Go.Tp

section
variable {P : Program} {E : TEnv} {G : Globs} {w : World} {R : Own} {N : Name → Option Nat}

theorem eval_raw {s : AState} {act : Act} {bsT : List Nat} (ht : RepVs w R N s.tmps act.tmps.toList bsT) (hg : ∀ g cs, G g = some cs → RepAt w R g 0 cs) (x : Operand) :
    ∃ bs, RepV w R N (aeval G s x) (act.eval x) bs := by
  cases x with
  | tmp t =>
    simp only [aeval, getT, Act.eval]
    cases h : s.tmps[t]? with
    | none => exact ⟨[], repV_undef _⟩
    | some a =>
      obtain ⟨v, b', e1, e2, _⟩ := repVs_get ht h
      have : act.tmps.getD t undef = v := by simp at e1; simp [e1]
      exact ⟨b', by rw [this]; exact e2⟩
  | const v => exact ⟨[], ofConst_rep v⟩
  | global g =>
    simp only [aeval, Act.eval]
    cases h : G g with
    | none => exact ⟨[], repV_undef _⟩
    | some cs => exact ⟨[], by simp only [RepV]; exact ⟨trivial, g, 0, rfl, hg g cs h⟩⟩
  | func f => exact ⟨[], by simp only [aeval, Act.eval, RepV]; exact ⟨trivial, [], [], rfl, repVs_nil, repVs_nil⟩⟩

theorem eval_copy {s : AState} {act : Act} {bsT : List Nat} (ht : RepVs w R N s.tmps act.tmps.toList bsT) (hg : ∀ g cs, G g = some cs → RepAt w R g 0 cs) (x : Operand) :
    RepV w R N (unOwn (aeval G s x)) (act.eval x) [] := by
  obtain ⟨bs, h⟩ := eval_raw ht hg x
  exact unOwn_rep h

theorem args_copy {s : AState} {act : Act} {bsT : List Nat} (ht : RepVs w R N s.tmps act.tmps.toList bsT) (hg : ∀ g cs, G g = some cs → RepAt w R g 0 cs) (mv : Option Nat) : ∀ (k : Nat) (xs : List Operand),
    (∀ j, mv = some j → j < k ∨ k + xs.length ≤ j) → RepVs w R N (evalArgs G s mv k xs) (xs.map act.eval) []
  | _, [], _ => by simpa [evalArgs] using repVs_nil
  | k, x :: xs, h => by
    have hne : mv ≠ some k := fun e => by rcases h k e with h | h <;> simp at h <;> omega
    simp only [evalArgs, if_neg hne, List.map_cons]
    exact repVs_cons (b1 := []) (b2 := []) (eval_copy ht hg x) (args_copy ht hg mv (k + 1) xs (fun j hj => by have := h j hj; simp only [List.length_cons] at this; omega))

/-- The operands' values, the moved one with what it owns; the slot that it came from owns nothing. -/
theorem args_take {s : AState} {act : Act} {bsT : List Nat} (ht : RepVs w R N s.tmps act.tmps.toList bsT) (hg : ∀ g cs, G g = some cs → RepAt w R g 0 cs) (mv : Option Nat) (xs : List Operand) (rest : List Nat) (hnd : (bsT ++ rest).Nodup) :
    ∃ bsM bsT', RepVs w R N (evalArgs G s mv 0 xs) (xs.map act.eval) bsM ∧ RepVs w R N (dropOwn s mv xs).tmps act.tmps.toList bsT' ∧ (bsM ++ (bsT' ++ rest)).Nodup ∧ (mv = none → bsM = []) := by
  cases mv with
  | none => exact ⟨[], bsT, args_copy ht hg none 0 xs (by simp), by simpa [dropOwn] using ht, by simpa using hnd, fun _ => rfl⟩
  | some k =>
    -- the part with operand k
    have key : ∀ (xs : List Operand) (j : Nat), j ≤ k → ∀ bk, (∀ x, xs[k - j]? = some x → RepV w R N (aeval G s x) (act.eval x) bk) → (xs.length ≤ k - j → bk = []) → RepVs w R N (evalArgs G s (some k) j xs) (xs.map act.eval) bk := by
      intro xs
      induction xs with
      | nil => intro j _ bk _ h0; rw [h0 (by simp)]; simpa [evalArgs] using repVs_nil
      | cons x xs ih =>
        intro j hj bk hx h0
        by_cases hjk : k = j
        · subst hjk
          simp only [evalArgs, if_true, List.map_cons]
          have h1 := hx x (by simp)
          have h2 := args_copy ht hg (some k) (k + 1) xs (fun j hj => by simp at hj; omega)
          simpa using repVs_cons h1 h2
        · have hne : (some k : Option Nat) ≠ some j := by simpa using hjk
          simp only [evalArgs, if_neg hne, List.map_cons]
          have e : k - j = (k - (j + 1)) + 1 := by omega
          exact repVs_cons (b1 := []) (eval_copy ht hg x) (ih (j + 1) (by omega) bk (fun y hy => hx y (by rw [e]; simpa using hy)) (fun hl => h0 (by simp; omega)))
    cases hk : xs[k]? with
    | none =>
      have hl : xs.length ≤ k := by simpa using hk
      exact ⟨[], bsT, key xs 0 (by omega) [] (fun x hx => by rw [Nat.sub_zero, hk] at hx; simp at hx) (fun _ => rfl), by simpa [dropOwn, hk] using ht, by simpa using hnd, by simp⟩
    | some x =>
      have hnl : ¬ xs.length ≤ k - 0 := fun hl => by rw [List.getElem?_eq_none (by simpa using hl)] at hk; simp at hk
      cases x with
      | tmp t =>
        cases hg2 : s.tmps[t]? with
        | none =>
          have hu : getT s.tmps t = .undef := by simp [getT, hg2]
          refine ⟨[], bsT, key xs 0 (by omega) [] (fun y hy => ?_) (fun hl => absurd hl hnl), ?_, by simpa using hnd, by simp⟩
          · rw [Nat.sub_zero, hk] at hy
            simp at hy
            subst hy
            simp only [aeval, hu]
            exact repV_undef _
          · have : s.tmps.set t (unOwn (getT s.tmps t)) = s.tmps := List.set_eq_of_length_le (by simpa using hg2)
            simp only [dropOwn, hk, this]
            exact ht
        | some a =>
          obtain ⟨pre, bt, post, v, e1, e2, e3, e4⟩ := RepVs.split ht hg2
          have hgt : getT s.tmps t = a := by simp [getT, hg2]
          have hev : act.eval (.tmp t) = v := by simp at e2; simp [Act.eval, e2]
          refine ⟨bt, pre ++ [] ++ post, key xs 0 (by omega) bt (fun y hy => ?_) (fun hl => absurd hl hnl), ?_, ?_, by simp⟩
          · rw [Nat.sub_zero, hk] at hy
            simp at hy
            subst hy
            rw [hev]
            simp only [aeval, hgt]
            exact e3
          · have := e4 w R (unOwn a) v [] (keep_refl _) (unOwn_rep e3)
            have hset : act.tmps.toList.set t v = act.tmps.toList := by
              apply List.ext_getElem?
              intro j
              rw [List.getElem?_set]
              split
              · rename_i htj; subst htj; split
                · exact e2.symm
                · rename_i hl; rw [List.getElem?_eq_none (by omega)]
              · rfl
            rw [hset] at this
            simp only [dropOwn, hk, hgt]
            exact this
          · subst e1
            have hp : (bt ++ ((pre ++ [] ++ post) ++ rest)).Perm ((pre ++ bt ++ post) ++ rest) := by
              simp only [List.append_nil, ← List.append_assoc]
              refine List.Perm.append_right _ (List.Perm.append_right _ ?_)
              exact List.perm_append_comm
            exact hp.nodup_iff.2 hnd
      | const v => exact ⟨[], bsT, key xs 0 (by omega) [] (fun y hy => by rw [Nat.sub_zero, hk] at hy; simp at hy; subst hy; exact ofConst_rep v) (fun hl => absurd hl hnl), by simpa [dropOwn, hk] using ht, by simpa using hnd, by simp⟩
      | global g =>
        refine ⟨[], bsT, key xs 0 (by omega) [] (fun y hy => ?_) (fun hl => absurd hl hnl), by simpa [dropOwn, hk] using ht, by simpa using hnd, by simp⟩
        rw [Nat.sub_zero, hk] at hy
        simp at hy
        subst hy
        simp only [aeval, Act.eval]
        cases h : G g with
        | none => exact repV_undef _
        | some cs => simp only [RepV]; exact ⟨trivial, g, 0, rfl, hg g cs h⟩
      | func f =>
        refine ⟨[], bsT, key xs 0 (by omega) [] (fun y hy => ?_) (fun hl => absurd hl hnl), by simpa [dropOwn, hk] using ht, by simpa using hnd, by simp⟩
        rw [Nat.sub_zero, hk] at hy
        simp at hy
        subst hy
        simp only [aeval, Act.eval, RepV]
        exact ⟨trivial, [], [], rfl, repVs_nil, repVs_nil⟩

/-! #### What an operation does -/

/-- Blocks of the moved operand, of the looked-at object, or new ones. -/
def From (w : World) (bs : List Nat) (xs : List Nat) : Prop := xs.Nodup ∧ ∀ b ∈ xs, b ∈ bs ∨ w.heap.size ≤ b

/-- The outcome of an operation, in one form. 'nm': the block of the object that it looks at, and what that object owns. -/
def OutOk (w : World) (R : Own) (N : Name → Option Nat) (ob : Option AObj) (nm : Option (Nat × List Nat)) (bsM rest : List Nat) (out : Out) (cv : Value) (w' : World) (R' : Own) : Prop :=
  Keep w R w' R' rest ∧
  match out.eff with
  | .keep => ∃ bsV, RepV w' R' N out.val cv bsV ∧ From w bsM bsV ∧ (∀ b b1 o, nm = some (b, b1) → ob = some o → RepObj w' R' N o b b1) ∧ (nm = none ∨ (w' = w ∧ R' = R))
  | .set o' => ∃ b b1 b1' bsV, nm = some (b, b1) ∧ RepObj w' R' N o' b b1' ∧ RepV w' R' N out.val cv bsV ∧ From w (bsM ++ b1) (bsV ++ b1')
  | .new o' => nm = none ∧ ∃ b1', RepObj w' R' N o' w.heap.size b1' ∧ (b1'.Nodup ∧ ∀ b ∈ b1', b ∈ bsM) ∧ w.heap.size < w'.heap.size ∧ cv = (match o' with | .cells _ => .pointer (some ⟨w.heap.size, 0, none⟩) | .map _ => .map (some w.heap.size))

theorem From.nil {bs : List Nat} : From w bs [] := ⟨List.nodup_nil, by simp⟩
theorem From.self {bs : List Nat} (h : bs.Nodup) : From w bs bs := ⟨h, fun _ hb => .inl hb⟩

/-- An operation that changes nothing and looks at nothing. -/
theorem OutOk.pure {out : Out} {cv : Value} {ob : Option AObj} {nm : Option (Nat × List Nat)} {bsM rest bsV : List Nat} (he : out.eff = .keep) (hv : RepV w R N out.val cv bsV) (hf : From w bsM bsV)
    (hob : ∀ b b1 o, nm = some (b, b1) → ob = some o → RepObj w R N o b b1) : OutOk w R N ob nm bsM rest out cv w R := by
  refine ⟨keep_refl _, ?_⟩
  rw [he]
  exact ⟨bsV, hv, hf, hob, .inr ⟨rfl, rfl⟩⟩

theorem value_run {s : Sem Value} {cv : Value} {w' : World} (h : s.run P w = .ok cv w') : (do pure (Next.value (← s)) : Sem Next).run P w = .ok (.value cv) w' := by
  simp [h]
theorem skip_run {s : Sem Unit} {w' : World} (h : s.run P w = .ok () w') : (do s; pure Next.skip : Sem Next).run P w = .ok .skip w' := by
  simp [h]
end
end Go.Tp
