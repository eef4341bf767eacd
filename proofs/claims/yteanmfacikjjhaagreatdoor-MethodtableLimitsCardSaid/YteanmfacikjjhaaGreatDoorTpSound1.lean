/- The generic layer: facts on the relation of abstract values to values. -/
import Derived.Test.YteanmfacikjjhaaGreatDoorTpOps
namespace Go.Tp

section
variable {w : World} {R : Own} {N : Name → Option Nat}

theorem RepOwn.rep {v : Value} {es : List Dat} {bs : List Nat} (h : RepOwn w R v es bs) : RepC w R v (.slice es) := by
  cases h with
  | nil => exact .nil _ _
  | row => assumption

theorem RepVs.nil_bs : ∀ {as : List AVal} {vs : List Value} {bs : List Nat}, RepVs w R N as vs bs → bs = [] → RepVs w R N as vs []
  | _, _, _, h, e => e ▸ h

theorem repVs_cons {a : AVal} {as : List AVal} {v : Value} {vs : List Value} {b1 b2 : List Nat} (h : RepV w R N a v b1) (k : RepVs w R N as vs b2) :
    RepVs w R N (a :: as) (v :: vs) (b1 ++ b2) := by
  simp only [RepVs]; exact ⟨v, vs, b1, b2, rfl, rfl, h, k⟩

theorem repVs_nil : RepVs w R N [] [] [] := by simp [RepVs]

theorem repVs_cons_inv {a : AVal} {as : List AVal} {vs : List Value} {bs : List Nat} (h : RepVs w R N (a :: as) vs bs) :
    ∃ v vs' b1 b2, vs = v :: vs' ∧ bs = b1 ++ b2 ∧ RepV w R N a v b1 ∧ RepVs w R N as vs' b2 := by
  simpa only [RepVs] using h

theorem repVs_nil_inv {vs : List Value} {bs : List Nat} (h : RepVs w R N [] vs bs) : vs = [] ∧ bs = [] := by simpa only [RepVs] using h

theorem repVs_append {as : List AVal} : ∀ {cs : List AVal} {vs us : List Value} {b1 b2 : List Nat}, RepVs w R N as vs b1 → RepVs w R N cs us b2 →
    RepVs w R N (as ++ cs) (vs ++ us) (b1 ++ b2) := by
  induction as with
  | nil => intro cs vs us b1 b2 h k; obtain ⟨rfl, rfl⟩ := repVs_nil_inv h; simpa using k
  | cons a as ih =>
    intro cs vs us b1 b2 h k
    obtain ⟨v, vs', c1, c2, rfl, rfl, h1, h2⟩ := repVs_cons_inv h
    simpa using repVs_cons h1 (ih h2 k)

/-- The cells of a datum. -/
theorem repVs_dats : ∀ {ds : List Dat} {vs : List Value}, RepCs w R vs ds → RepVs w R N (ds.map .dat) vs []
  | [], [], _ => repVs_nil
  | d :: ds, v :: vs, h => by
    obtain ⟨h1, h2⟩ := h
    have hv : RepV w R N (.dat d) v [] := by
      simp only [RepV]
      refine ⟨trivial, ?_⟩
      cases h1 with
      | flat h => exact .flat h
      | nil a cap => exact .nil a cap
      | slice => exact .slice _ _ _ _ _ _ (by assumption) (by assumption) (by assumption) (by assumption) (by assumption) (by assumption)
    simpa using repVs_cons hv (repVs_dats (ds := ds) h2)
  | [], _ :: _, h => h.elim
  | _ :: _, [], h => h.elim

theorem repD_of_repC {v : Value} {d : Dat} (h : RepC w R v d) : RepD w R v d := by
  cases h with
  | flat h => exact .flat h
  | nil a cap => exact .nil a cap
  | slice => exact .slice _ _ _ _ _ _ (by assumption) (by assumption) (by assumption) (by assumption) (by assumption) (by assumption)

theorem repV_dat {v : Value} {d : Dat} (h : RepD w R v d) : RepV w R N (.dat d) v [] := by simp only [RepV]; exact ⟨trivial, h⟩
theorem repV_dat_inv {v : Value} {d : Dat} {bs : List Nat} (h : RepV w R N (.dat d) v bs) : bs = [] ∧ RepD w R v d := by simpa only [RepV] using h
theorem repV_flat_inv {v u : Value} {bs : List Nat} (h : RepV w R N (.dat (.flat u)) v bs) : bs = [] ∧ v = u ∧ isFlat u = true := by
  obtain ⟨h1, h2⟩ := repV_dat_inv h
  have h2 : RepC w R v (.flat u) := h2
  cases h2 with | flat hf => exact ⟨h1, rfl, hf⟩
theorem repV_flat {v : Value} (h : isFlat v = true) : RepV w R N (aval v) v [] := repV_dat (d := .flat v) (.flat h)
theorem repV_slice_inv {v : Value} {es : List Dat} {bs : List Nat} (h : RepV w R N (.dat (.slice es)) v bs) : bs = [] ∧ RepC w R v (.slice es) := repV_dat_inv h
theorem repV_agg_inv {v : Value} {cs : List AVal} {bs : List Nat} (h : RepV w R N (.agg cs) v bs) : ∃ vs, v = .agg vs.toArray ∧ RepVs w R N cs vs bs := by
  simpa only [RepV] using h
theorem repV_own_inv {v : Value} {es : List Dat} {bs : List Nat} (h : RepV w R N (.own es) v bs) : RepOwn w R v es bs := by simpa only [RepV] using h
theorem repV_undef (v : Value) : RepV w R N .undef v [] := by simp only [RepV]

/-- Of what is one cell and no owned slice, nothing is owned. -/
theorem repV_simple {a : AVal} {v : Value} {bs : List Nat} (h : RepV w R N a v bs) (h1 : ∀ es, a ≠ .own es) (h2 : ∀ cs, a ≠ .agg cs) (h3 : ∀ cs, a ≠ .tup cs) : bs = [] := by
  cases a <;> simp_all [RepV]

theorem unOwnL_rep : ∀ {as : List AVal} {vs : List Value} {bs : List Nat}, RepVs w R N as vs bs → RepVs w R N (unOwnL as) vs []
  | [], _, _, h => by obtain ⟨rfl, rfl⟩ := repVs_nil_inv h; exact repVs_nil
  | a :: as, vs, bs, h => by
    obtain ⟨v, vs', b1, b2, rfl, rfl, h1, h2⟩ := repVs_cons_inv h
    have ih := unOwnL_rep h2
    cases a with
    | own es => simpa [unOwnL] using repVs_cons (repV_dat (d := .slice es) (repV_own_inv h1).rep) ih
    | agg cs => simpa [unOwnL] using repVs_cons (repV_undef v) ih
    | tup cs => simpa [unOwnL] using repVs_cons (repV_undef v) ih
    | _ =>
      obtain rfl := repV_simple h1 (by simp) (by simp) (by simp)
      simpa [unOwnL] using repVs_cons h1 ih

theorem datCells_rep : ∀ {cs : List AVal} {vs : List Value} {bs : List Nat} {ds : List Dat}, RepVs w R N cs vs bs → datCells cs = some ds → RepCs w R vs ds ∧ bs = []
  | [], _, _, _, h, hd => by
    obtain ⟨rfl, rfl⟩ := repVs_nil_inv h
    simp [datCells] at hd
    subst hd
    exact ⟨trivial, rfl⟩
  | a :: cs, vs, bs, ds, h, hd => by
    obtain ⟨v, vs', b1, b2, rfl, rfl, h1, h2⟩ := repVs_cons_inv h
    unfold datCells at hd
    split at hd
    · simp at *
    · rename_i u r heq
      obtain ⟨rfl, rfl⟩ := List.cons.inj heq
      cases hc : datCells cs with
      | none => simp [hc] at hd
      | some ds' =>
        simp [hc] at hd
        subst hd
        obtain ⟨h3, rfl⟩ := datCells_rep h2 hc
        obtain ⟨rfl, h4⟩ := repV_dat_inv h1
        exact ⟨⟨h4, h3⟩, rfl⟩
    · rename_i es r heq
      obtain ⟨rfl, rfl⟩ := List.cons.inj heq
      cases hc : datCells cs with
      | none => simp [hc] at hd
      | some ds' =>
        simp [hc] at hd
        subst hd
        obtain ⟨h3, rfl⟩ := datCells_rep h2 hc
        obtain ⟨rfl, h4⟩ := repV_dat_inv h1
        exact ⟨⟨h4, h3⟩, rfl⟩
    · simp at hd

theorem mkAgg_rep {cs : List AVal} {vs : List Value} {bs : List Nat} (h : RepVs w R N cs vs bs) : RepV w R N (mkAgg cs) (.agg vs.toArray) bs := by
  unfold mkAgg
  split
  · rename_i ds hd
    obtain ⟨h1, rfl⟩ := datCells_rep h hd
    exact repV_dat ⟨vs, rfl, h1⟩
  · simp only [RepV]; exact ⟨vs, rfl, h⟩

theorem unOwnT_rep : ∀ {as : List AVal} {vs : List Value} {bs : List Nat}, RepVs w R N as vs bs → RepVs w R N (unOwnT as) vs []
  | [], _, _, h => by obtain ⟨rfl, rfl⟩ := repVs_nil_inv h; exact repVs_nil
  | a :: as, vs, bs, h => by
    obtain ⟨v, vs', b1, b2, rfl, rfl, h1, h2⟩ := repVs_cons_inv h
    have ih := unOwnT_rep h2
    cases a with
    | own es => simpa [unOwnT] using repVs_cons (repV_dat (d := .slice es) (repV_own_inv h1).rep) ih
    | agg cs =>
      obtain ⟨us, rfl, h3⟩ := repV_agg_inv h1
      simpa [unOwnT] using repVs_cons (mkAgg_rep (unOwnL_rep h3)) ih
    | tup cs => simpa [unOwnT] using repVs_cons (repV_undef v) ih
    | _ =>
      obtain rfl := repV_simple h1 (by simp) (by simp) (by simp)
      simpa [unOwnT] using repVs_cons h1 ih

theorem unOwn_rep {a : AVal} {v : Value} {bs : List Nat} (h : RepV w R N a v bs) : RepV w R N (unOwn a) v [] := by
  cases a with
  | own es => exact repV_dat (d := .slice es) (repV_own_inv h).rep
  | agg cs =>
    obtain ⟨us, rfl, h3⟩ := repV_agg_inv h
    exact mkAgg_rep (unOwnL_rep h3)
  | tup cs =>
    simp only [RepV] at h
    obtain ⟨us, rfl, h3⟩ := h
    simp only [unOwn, RepV]
    exact ⟨us, rfl, unOwnT_rep h3⟩
  | _ =>
    obtain rfl := repV_simple h (by simp) (by simp) (by simp)
    exact h

theorem asDat_rep {a : AVal} {v : Value} {bs : List Nat} {d : Dat} (h : RepV w R N a v bs) (hd : asDat a = some d) : RepD w R v d := by
  cases a with
  | dat e => simp [asDat] at hd; subst hd; exact (repV_dat_inv h).2
  | own es => simp [asDat] at hd; subst hd; exact (repV_own_inv h).rep
  | agg cs =>
    obtain ⟨us, rfl, h3⟩ := repV_agg_inv h
    simp only [asDat] at hd
    split at hd
    · rename_i ds hds
      simp at hd
      subst hd
      exact ⟨us, rfl, (datCells_rep (unOwnL_rep h3) hds).1⟩
    · simp at hd
  | _ => simp [asDat] at hd

theorem repC_cells {v : Value} {d : Dat} (h : RepC w R v d) : v.cells = #[v] ∧ v.oneCell' = true := by
  cases h with
  | flat h => cases v <;> simp_all [isFlat, Value.cells, Value.oneCell']
  | nil => simp [Value.cells, Value.oneCell']
  | slice => simp [Value.cells, Value.oneCell']

theorem repCs_length : ∀ {vs : List Value} {cs : List Dat}, RepCs w R vs cs → vs.length = cs.length
  | [], [], _ => rfl
  | _ :: _, _ :: _, h => by simp [repCs_length h.2]
  | [], _ :: _, h => h.elim
  | _ :: _, [], h => h.elim

/-- The cells of a datum's value. -/
theorem repD_cells {v : Value} {d : Dat} (h : RepD w R v d) : RepCs w R v.cells.toList d.cells := by
  cases d with
  | agg cs => obtain ⟨vs, rfl, h⟩ := h; simpa [Value.cells, Dat.cells] using h
  | flat u => rw [(repC_cells (d := .flat u) h).1]; exact ⟨h, trivial⟩
  | slice es => rw [(repC_cells (d := .slice es) h).1]; exact ⟨h, trivial⟩

theorem acells_rep {a : AVal} {v : Value} {bs : List Nat} (h : RepV w R N a v bs) (hk : okCells (acells a) = true) : RepVs w R N (acells a) v.cells.toList bs := by
  cases a with
  | agg cs => obtain ⟨us, rfl, h3⟩ := repV_agg_inv h; simpa [acells, Value.cells] using h3
  | dat d =>
    obtain ⟨rfl, hd⟩ := repV_dat_inv h
    cases d with
    | agg cs => obtain ⟨vs, rfl, h1⟩ := hd; simpa [acells, Value.cells] using repVs_dats h1
    | flat u => rw [(repC_cells (d := .flat u) hd).1]; simpa [acells] using repVs_cons h repVs_nil
    | slice es => rw [(repC_cells (d := .slice es) hd).1]; simpa [acells] using repVs_cons h repVs_nil
  | undef => simp [acells, okCells, okCell] at hk
  | tup cs => simp [acells, okCells, okCell] at hk
  | own es =>
    have : v.cells = #[v] := (repC_cells (repV_own_inv h).rep).1
    rw [this]
    simpa [acells] using repVs_cons h repVs_nil
  | ref cs => 
    have h' := h
    simp only [RepV] at h'
    obtain ⟨rfl, b, off, rfl, _⟩ := h'
    simpa [acells, Value.cells] using repVs_cons h repVs_nil
  | ptr n o =>
    have h' := h
    simp only [RepV] at h'
    obtain ⟨rfl, b, _, rfl⟩ := h'
    simpa [acells, Value.cells] using repVs_cons h repVs_nil
  | map n =>
    have h' := h
    simp only [RepV] at h'
    obtain ⟨rfl, b, _, rfl⟩ := h'
    simpa [acells, Value.cells] using repVs_cons h repVs_nil
  | win n s off len =>
    have h' := h
    simp only [RepV] at h'
    obtain ⟨rfl, b, cap, _, rfl, _⟩ := h'
    simpa [acells, Value.cells] using repVs_cons h repVs_nil
  | fn f x y =>
    have h' := h
    simp only [RepV] at h'
    obtain ⟨rfl, vs, us, rfl, _⟩ := h'
    simpa [acells, Value.cells] using repVs_cons h repVs_nil

theorem okCell_one {a : AVal} {v : Value} {bs : List Nat} (h : RepV w R N a v bs) (hk : okCell a = true) : v.oneCell' = true := by
  cases a with
  | dat d =>
    obtain ⟨rfl, hd⟩ := repV_dat_inv h
    cases d with
    | agg cs => simp [okCell] at hk
    | flat u => exact (repC_cells (d := .flat u) hd).2
    | slice es => exact (repC_cells (d := .slice es) hd).2
  | own es => exact (repC_cells (repV_own_inv h).rep).2
  | ref cs => simp only [RepV] at h; obtain ⟨rfl, b, off, rfl, _⟩ := h; rfl
  | ptr n o => simp only [RepV] at h; obtain ⟨rfl, b, _, rfl⟩ := h; rfl
  | map n => simp only [RepV] at h; obtain ⟨rfl, b, _, rfl⟩ := h; rfl
  | win n s off len => simp only [RepV] at h; obtain ⟨rfl, b, cap, _, rfl, _⟩ := h; rfl
  | fn f x y => simp only [RepV] at h; obtain ⟨rfl, vs, us, rfl, _⟩ := h; rfl
  | _ => simp [okCell] at hk

theorem okCells_one : ∀ {as : List AVal} {vs : List Value} {bs : List Nat}, RepVs w R N as vs bs → okCells as = true → ∀ v ∈ vs, v.oneCell' = true
  | [], _, _, h, _, v, hv => by obtain ⟨rfl, rfl⟩ := repVs_nil_inv h; simp at hv
  | a :: as, _, _, h, hk, v, hv => by
    obtain ⟨u, vs', b1, b2, rfl, rfl, h1, h2⟩ := repVs_cons_inv h
    simp [okCells] at hk
    rcases List.mem_cons.1 hv with rfl | hv
    · exact okCell_one h1 hk.1
    · exact okCells_one h2 hk.2 v hv

theorem constL_rep : ∀ (vs : List Value), RepVs w R N (constL vs) vs []
  | [] => repVs_nil
  | v :: vs => by
    have ih := constL_rep vs
    unfold constL
    split
    · rename_i hf; exact repVs_cons (b1 := []) (repV_flat hf) ih
    · simpa using repVs_cons (repV_undef v) ih

theorem ofConst_rep (v : Value) : RepV w R N (ofConst v) v [] := by
  unfold ofConst
  split
  · rename_i cs
    have := mkAgg_rep (constL_rep (w := w) (R := R) (N := N) cs.toList)
    simpa using this
  · exact repV_undef _
  · split
    · rename_i hf; exact repV_flat hf
    · exact repV_undef _

theorem repV_nz {a : AVal} {v : Value} {bs : List Nat} (h : RepV w R N a v bs) : RepV w R N (nz a) v bs := by
  unfold nz
  split
  · obtain ⟨rfl, rfl, _⟩ := repV_flat_inv h
    exact repV_dat (d := .slice []) (.nil none 0)
  · exact h

theorem repV_ownz {a : AVal} {v : Value} {bs : List Nat} (h : RepV w R N a v bs) : RepV w R N (ownz a) v bs := by
  unfold ownz
  split
  · obtain ⟨rfl, rfl, _⟩ := repV_flat_inv h
    simp only [RepV]; exact .nil
  · exact h

theorem repVs_nz : ∀ {as : List AVal} {vs : List Value} {bs : List Nat}, RepVs w R N as vs bs → RepVs w R N (nzL as) vs bs
  | [], _, _, h => h
  | _ :: _, _, _, h => by
    obtain ⟨v, vs', b1, b2, rfl, rfl, h1, h2⟩ := repVs_cons_inv h
    exact repVs_cons (repV_nz h1) (repVs_nz h2)
end
end Go.Tp
