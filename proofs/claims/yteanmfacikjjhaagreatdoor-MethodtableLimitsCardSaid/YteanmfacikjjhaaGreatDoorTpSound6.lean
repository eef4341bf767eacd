/- The generic layer: slice expressions, struct literals, lengths, look-ups. -/
import Derived.Test.YteanmfacikjjhaaGreatDoorTpSound5
import Derived.Laws.Tables
import Derived.Great.FillDense
namespace Go.Tp

section
variable {P : Program} {E : TEnv} {w : World} {R : Own} {N : Name → Option Nat}

/-! #### Slice expressions -/

theorem bound_run {v : Option AVal} {x : Option Value} {d n y : Nat} (h : bound1 v d = some n) (hr : ∀ a, v = some a → ∃ u, x = some u ∧ RepV w R N a u []) (hn : v = none → x = none) (hy : n ≤ y) (code : BoundsCode) :
    (match x with | some u => (Instr.sliceBound u y code) | none => (pure d : Sem Nat)).run P w = .ok n w := by
  cases v with
  | none => rw [hn rfl]; simp [bound1] at h; subst h; rfl
  | some a =>
    obtain ⟨u, rfl, hu⟩ := hr a rfl
    unfold bound1 at h
    split at h
    · simp at *
    · rename_i k i heq
      simp at heq
      subst heq
      obtain ⟨_, rfl, _⟩ := repV_flat_inv hu
      split at h
      · rename_i h0
        simp at h
        subst h
        have : i ≤ (y : Int) := by omega
        simp [Instr.sliceBound, asIntOf, h0, this]
      · simp at h
    · simp at h

theorem run_bounds {isSlice : Bool} {len cap h l : Nat} {lo hi : Option AVal} {lov hiv : Option Value} (e1 : bound1 hi len = some h) (e2 : bound1 lo 0 = some l)
    (hhi : ∀ a, hi = some a → ∃ u, hiv = some u ∧ RepV w R N a u []) (hhn : hi = none → hiv = none)
    (hlo : ∀ a, lo = some a → ∃ u, lov = some u ∧ RepV w R N a u []) (hln : lo = none → lov = none) (h1 : l ≤ h) (h2 : h ≤ cap) :
    (Instr.sliceBounds isSlice len cap lov hiv none).run P w = .ok (l, h, cap) w := by
  have b1 := fun code => bound_run (P := P) (y := cap) e1 hhi hhn h2 code
  have b2 := fun code => bound_run (P := P) (y := h) e2 hlo hln h1 code
  cases hiv <;> cases lov <;> simp_all [Instr.sliceBounds]

theorem repC_sub {v : Value} {es : List Dat} {s l h : Nat} (hr : RepC w R v (.slice es)) (hs : ∀ d ∈ es, d.cells.length = s) (h1 : l ≤ h) (h2 : h ≤ es.length) :
    ∃ a cap, v = .slice a es.length cap ∧ es.length ≤ cap ∧ RepC w R (.slice (if cap = l then a else a.map (·.add (l * s))) (h - l) (cap - l)) (.slice ((es.take h).drop l)) := by
  have hlen : ((es.take h).drop l).length = h - l := by simp; omega
  cases hr with
  | nil a cap =>
    refine ⟨a, cap, rfl, by simp, ?_⟩
    have : h = 0 := by simpa using h2
    subst this
    have : l = 0 := by omega
    subst this
    exact .nil _ _
  | slice b off cap s' es vs hs0 hlen' hcap hb hcell hrep =>
    refine ⟨some ⟨b, off, none⟩, cap, rfl, hcap, ?_⟩
    by_cases hlh : l = h
    · subst hlh
      have : (es.take l).drop l = [] := by simp
      rw [this, Nat.sub_self]
      exact .nil _ _
    · have hne : ¬ cap = l := by omega
      rw [if_neg hne]
      have hss : s' = s := by
        cases es with
        | nil => simp at h2; omega
        | cons e es => rw [← hlen' e (by simp), hs e (by simp)]
      subst hss
      simp only [Option.map_some, add_plain]
      rw [← hlen]
      refine .slice b (off + l * s') (cap - l) s' _ (fun i j => vs (l + i) j) hs0 (fun e he => hlen' e (List.mem_of_mem_take (List.mem_of_mem_drop he))) (by omega) (by omega) (fun i j hi hj => ?_) (fun i j e c he hc => ?_)
      · have := hcell (l + i) j (by omega) hj
        rw [show off + l * s' + i * s' + j = off + (l + i) * s' + j by rw [Nat.add_mul]; omega]
        exact this
      · refine hrep (l + i) j e c ?_ hc
        rw [List.getElem?_drop, List.getElem?_take] at he
        split at he
        · exact he
        · simp at he

theorem intArg_bound {v : Option AVal} {x : Option Int} {d : Nat} (h : intArg v = some x) : boundOf x d = bound1 v d := by
  unfold intArg at h
  split at h
  · simp at h; subst h; rfl
  · simp at h; subst h; rfl
  · simp at h

theorem sound_slice (hE : E.Ok P) {t : TypeId} {lo hi mx : Option Operand} {a : AVal} {rest : List AVal} {x : Value} {ρ : Operand → Value} {out : Out}
    (h : aSlice E t lo hi mx (a :: rest) = some out) (ha : RepV w R N a x []) (hrest : RepVs w R N rest ((lo.toList ++ hi.toList).map ρ) []) :
    out.eff = .keep ∧ mx = none ∧ ∃ cv, (Instr.sliceAt t x (lo.map ρ) (hi.map ρ) none).run P w = .ok cv w ∧ RepV w R N out.val cv [] := by
  have key : ∀ (L H : Option AVal), optArgs lo hi rest = (L, H) → (∀ v, H = some v → ∃ u, hi.map ρ = some u ∧ RepV w R N v u []) ∧ (H = none → hi.map ρ = none) ∧
      (∀ v, L = some v → ∃ u, lo.map ρ = some u ∧ RepV w R N v u []) ∧ (L = none → lo.map ρ = none) := by
    intro L H hopt
    cases lo with
    | none =>
      cases hi with
      | none =>
        simp [optArgs] at hopt
        obtain ⟨rfl, rfl⟩ := hopt
        simp
      | some y =>
        simp at hrest
        cases rest with
        | nil => simp [RepVs] at hrest
        | cons r rest =>
          obtain ⟨u, us, b1, b2, e1, e2, h1, h2⟩ := repVs_cons_inv hrest
          simp at e1
          obtain ⟨rfl, rfl⟩ := e1
          obtain ⟨rfl, rfl⟩ := List.append_eq_nil_iff.1 e2.symm
          cases rest with
          | cons _ _ => simp [RepVs] at h2
          | nil =>
            simp [optArgs] at hopt
            obtain ⟨rfl, rfl⟩ := hopt
            simpa using h1
    | some z =>
      cases hi with
      | none =>
        simp at hrest
        cases rest with
        | nil => simp [RepVs] at hrest
        | cons r rest =>
          obtain ⟨u, us, b1, b2, e1, e2, h1, h2⟩ := repVs_cons_inv hrest
          simp at e1
          obtain ⟨rfl, rfl⟩ := e1
          obtain ⟨rfl, rfl⟩ := List.append_eq_nil_iff.1 e2.symm
          cases rest with
          | cons _ _ => simp [RepVs] at h2
          | nil =>
            simp [optArgs] at hopt
            obtain ⟨rfl, rfl⟩ := hopt
            simpa using h1
      | some y =>
        simp at hrest
        cases rest with
        | nil => simp [RepVs] at hrest
        | cons r rest =>
          obtain ⟨u, us, b1, b2, e1, e2, h1, h2⟩ := repVs_cons_inv hrest
          simp at e1
          obtain ⟨rfl, rfl⟩ := e1
          obtain ⟨rfl, rfl⟩ := List.append_eq_nil_iff.1 e2.symm
          cases rest with
          | nil => simp [RepVs] at h2
          | cons r2 rest =>
            obtain ⟨u2, us2, c1, c2, f1, f2, g1, g2⟩ := repVs_cons_inv h2
            simp at f1
            obtain ⟨rfl, rfl⟩ := f1
            obtain ⟨rfl, rfl⟩ := List.append_eq_nil_iff.1 f2.symm
            cases rest with
            | cons _ _ => simp [RepVs] at g2
            | nil =>
              simp [optArgs] at hopt
              obtain ⟨rfl, rfl⟩ := hopt
              simp
              exact ⟨g1, h1⟩
  obtain ⟨k1, k2, k3, k4⟩ := key (optArgs lo hi rest).1 (optArgs lo hi rest).2 rfl
  unfold aSlice at h
  split at h
  · rename_i s rest' heq
    obtain ⟨rfl, rfl⟩ := List.cons.inj heq
    obtain ⟨_, rfl, hfl⟩ := repV_flat_inv ha
    split at h
    · rename_i hd
      have hu := hE.desc_string hd
      cases hs : sliceOf E.pr 0 (optArgs lo hi rest).1 (optArgs lo hi rest).2 (.dat (.flat (.string s))) with
      | none => simp [hs, ofA] at h
      | some v =>
        simp [hs, ofA] at h
        subst h
        have hs2 : ∃ hh ll, bound1 (optArgs lo hi rest).2 s.size = some hh ∧ bound1 (optArgs lo hi rest).1 0 = some ll ∧ (ll ≤ hh ∧ hh ≤ s.size) ∧ v = aval (.string (s.extract ll hh)) := by
          simp only [sliceOf, hE.std, Prims.std] at hs
          split at hs
          · rename_i l h hl hh
            rw [← intArg_bound hl, ← intArg_bound hh]
            split at hs
            · rename_i r hr
              simp at hs
              split at hr
              · split at hr
                · rename_i h1 l1 e1 e2 hc
                  simp at hr
                  exact ⟨_, _, e1, e2, hc, by rw [← hs, ← hr]⟩
                · simp at hr
              · simp at hr
            · simp at hs
          · simp at hs
        obtain ⟨hh, ll, e1, e2, hc, rfl⟩ := hs2
        · · 
            have hb := run_bounds (P := P) (isSlice := false) e1 e2 k1 k2 k3 k4 hc.1 hc.2
            refine ⟨rfl, rfl, .string (s.extract ll hh), ?_, repV_flat (by simp [isFlat] at hfl ⊢; omega)⟩
            simp [Instr.sliceAt, Instr.slice, run_und hu, hb]
    · simp at h
  · rename_i es rest' heq
    obtain ⟨rfl, rfl⟩ := List.cons.inj heq
    obtain ⟨_, hr⟩ := repV_slice_inv ha
    split at h
    · rename_i i hel
      obtain ⟨e, hu, hty⟩ := elemOf_ok hE hel
      · cases hs : sliceOf E.pr i.size (optArgs lo hi rest).1 (optArgs lo hi rest).2 (.dat (.slice es)) with
        | none => simp [hs, ofA] at h
        | some v =>
          simp [hs, ofA] at h
          subst h
          have hs2 : ∃ hh ll, bound1 (optArgs lo hi rest).2 es.length = some hh ∧ bound1 (optArgs lo hi rest).1 0 = some ll ∧ (ll ≤ hh ∧ hh ≤ es.length) ∧ ((∀ d ∈ es, d.cells.length = i.size) ∧ 0 < i.size) ∧ v = .dat (.slice ((es.take hh).drop ll)) := by
            simp only [sliceOf, hE.std, Prims.std] at hs
            split at hs
            · rename_i l h hl hh
              rw [← intArg_bound hl, ← intArg_bound hh]
              split at hs
              · rename_i r hr
                simp at hs
                split at hr
                · rename_i hsz
                  split at hr
                  · split at hr
                    · rename_i h1 l1 e1 e2 hc
                      simp at hr
                      exact ⟨_, _, e1, e2, hc, hsz, by rw [← hs, ← hr]⟩
                    · simp at hr
                  · simp at hr
                · simp at hr
              · simp at hs
            · simp at hs
          obtain ⟨hh, ll, e1, e2, hc, hsz, rfl⟩ := hs2
          · · 
              obtain ⟨ad, cap, rfl, hcap, hrep⟩ := repC_sub hr hsz.1 hc.1 hc.2
              have hb := run_bounds (P := P) (isSlice := true) (cap := cap) e1 e2 k1 k2 k3 k4 hc.1 (by omega)
              refine ⟨rfl, rfl, _, ?_, repV_dat (d := .slice _) hrep⟩
              simp [Instr.sliceAt, Instr.slice, run_und hu, hb, hE.run_size hty]
    · simp at h
  · rename_i n s off len rest' heq
    obtain ⟨rfl, rfl⟩ := List.cons.inj heq
    simp only [RepV] at ha
    obtain ⟨_, bl, cap, hN, rfl, hcap, hs0, hlt, hsz⟩ := ha
    split at h
    · rename_i i hel
      obtain ⟨e, hu, hty⟩ := elemOf_ok hE hel
      split at h
      · rename_i l0 h0 hl0 hh0
        split at h
        · rename_i h1 l1 e2 e1
          rw [intArg_bound hl0] at e1
          rw [intArg_bound hh0] at e2
          split at h
          · rename_i hc
            simp only [Bool.and_eq_true, Nat.ble_eq, Nat.beq_eq] at hc
            obtain ⟨⟨hc1, hc2⟩, rfl⟩ := hc
            have hb := run_bounds (P := P) (w := w) (isSlice := true) (cap := cap) e2 e1 k1 k2 k3 k4 hc1 (by omega)
            split at h
            · simp at h
              subst h
              refine ⟨rfl, rfl, .slice (some ⟨bl, off, none⟩) h1 cap, ?_, ?_⟩
              · simp [Instr.sliceAt, Instr.slice, run_und hu, hb, hE.run_size hty, Addr.add]
              · simp only [RepV]
                exact ⟨trivial, bl, cap, hN, rfl, by omega, hs0, hlt, hsz⟩
            · rename_i l2
              split at h
              · rename_i hlt2
                rw [Nat.blt_eq] at hlt2
                simp at h
                subst h
                have hne : ¬ cap = l2 + 1 := by omega
                refine ⟨rfl, rfl, .slice (some ⟨bl, off + (l2 + 1) * i.size, none⟩) (h1 - (l2 + 1)) (cap - (l2 + 1)), ?_, ?_⟩
                · simp [Instr.sliceAt, Instr.slice, run_und hu, hb, hE.run_size hty, hne, add_plain]
                · simp only [RepV]
                  refine ⟨trivial, bl, cap - (l2 + 1), hN, rfl, by omega, hs0, hlt, ?_⟩
                  rw [← hsz, Nat.sub_mul, Nat.add_assoc]
                  congr 1
                  have : (l2 + 1) * i.size ≤ cap * i.size := Nat.mul_le_mul_right _ (by omega)
                  omega
              · rename_i hlt2
                have hlt2 : ¬ l2 + 1 < h1 := fun h' => hlt2 (by rw [Nat.blt_eq]; exact h')
                simp at h
                subst h
                have he : h1 = l2 + 1 := by omega
                subst he
                refine ⟨rfl, rfl, .slice (if cap = l2 + 1 then some ⟨bl, off, none⟩ else (some (⟨bl, off, none⟩ : Addr)).map (·.add ((l2 + 1) * i.size))) 0 (cap - (l2 + 1)), ?_, repV_dat (d := .slice _) (.nil _ _)⟩
                simp [Instr.sliceAt, Instr.slice, run_und hu, hb, hE.run_size hty]
          · simp at h
        · simp at h
      · simp at h
    · simp at h
  · simp at h

/-! #### Struct literals -/

theorem putL_get {α : Type} : ∀ (off : Nat) (ns l : List α) (k : Nat), (putL off ns l)[k]? = if off ≤ k ∧ k < off + ns.length ∧ k < l.length then ns[k - off]? else l[k]?
  | off, [], l, k => by
    have : ¬ (off ≤ k ∧ k < off + ([] : List α).length ∧ k < l.length) := by simp; omega
    rw [if_neg this]; cases off <;> cases l <;> rfl
  | off, n :: ns, [], k => by cases off <;> simp [putL]
  | 0, n :: ns, a :: l, 0 => by simp [putL]
  | 0, n :: ns, a :: l, k + 1 => by
    have := putL_get 0 ns l k
    simp only [putL, List.getElem?_cons_succ, this]
    simp
  | off + 1, n :: ns, a :: l, 0 => by simp [putL]
  | off + 1, n :: ns, a :: l, k + 1 => by
    have := putL_get off (n :: ns) l k
    simp only [putL, List.getElem?_cons_succ, this]
    have e : k + 1 - (off + 1) = k - off := by omega
    rw [e]
    by_cases h : off ≤ k ∧ k < off + (n :: ns).length ∧ k < l.length
    · rw [if_pos h, if_pos (by simp at h ⊢; omega)]
    · rw [if_neg h, if_neg (by simp at h ⊢; omega)]

theorem fold_putL (off : Nat) (v : Array Value) (cells : Array Value) :
    ((v.zipIdx.foldl (fun cs (x : Value × Nat) => cs.setIfInBounds (off + x.2) x.1) cells)) = (putL off v.toList cells.toList).toArray := by
  rw [← Array.foldl_toList, Array.toList_zipIdx]
  obtain ⟨h1, h2⟩ := Great.foldl_set off v.toList 0 cells
  apply Array.ext_getElem?
  intro k
  rw [h2 k]
  simp only [List.getElem?_toArray, putL_get, Nat.add_zero, Array.length_toList, Array.getElem?_toList]

theorem repVs_put0 : ∀ {ns as : List AVal} {us vs : List Value} {bs : List Nat}, RepVs w R N as vs bs → ns.length ≤ as.length → us.length = ns.length →
    ∃ mid post, bs = mid ++ post ∧ ∀ (b : List Nat) (w' : World) (R' : Own), Keep w R w' R' post → RepVs w' R' N ns us b → RepVs w' R' N (putL 0 ns as) (putL 0 us vs) (b ++ post)
  | [], as, us, vs, bs, h, _, hu => by
    obtain rfl : us = [] := List.eq_nil_of_length_eq_zero (by simpa using hu)
    refine ⟨[], bs, by simp, fun b w' R' k hr => ?_⟩
    obtain ⟨_, rfl⟩ := repVs_nil_inv hr
    have e1 : putL 0 ([] : List AVal) as = as := by cases as <;> rfl
    have e2 : putL 0 ([] : List Value) vs = vs := by cases vs <;> rfl
    rw [e1, e2]
    simpa using h.keep k
  | n :: ns, [], us, vs, bs, h, hl, hu => by simp at hl
  | n :: ns, a :: as, us, vs, bs, h, hl, hu => by
    obtain ⟨v, vs', c1, c2, rfl, rfl, h1, h2⟩ := repVs_cons_inv h
    cases us with
    | nil => simp at hu
    | cons u us =>
      obtain ⟨mid, post, e, hk⟩ := repVs_put0 (ns := ns) (us := us) h2 (by simpa using hl) (by simpa using hu)
      refine ⟨c1 ++ mid, post, by simp [e], fun b w' R' k hr => ?_⟩
      obtain ⟨u3, us3, f1, f2, e1, rfl, k1, k2⟩ := repVs_cons_inv hr
      obtain ⟨rfl, rfl⟩ := List.cons.inj e1
      simpa [putL] using repVs_cons k1 (hk f2 w' R' k k2)

/-- New cells in the place of some: what is owned. -/
theorem repVs_putL : ∀ (off : Nat) {ns as : List AVal} {us vs : List Value} {bs : List Nat}, RepVs w R N as vs bs → off + ns.length ≤ as.length → us.length = ns.length →
    ∃ pre mid post, bs = pre ++ mid ++ post ∧ ∀ (b2 : List Nat) (w' : World) (R' : Own), Keep w R w' R' (pre ++ post) → RepVs w' R' N ns us b2 → RepVs w' R' N (putL off ns as) (putL off us vs) (pre ++ b2 ++ post)
  | 0, ns, as, us, vs, bs, h, hl, hu => by
    obtain ⟨mid, post, e, hk⟩ := repVs_put0 h (by omega) hu
    exact ⟨[], mid, post, by simpa using e, fun b2 w' R' k hr => by simpa using hk b2 w' R' (by simpa using k) hr⟩
  | off + 1, [], as, us, vs, bs, h, hl, hu => by
    obtain rfl : us = [] := List.eq_nil_of_length_eq_zero (by simpa using hu)
    refine ⟨bs, [], [], by simp, fun b2 w' R' k hr => ?_⟩
    obtain ⟨_, rfl⟩ := repVs_nil_inv hr
    have e1 : putL (off + 1) ([] : List AVal) as = as := by cases as <;> rfl
    have e2 : putL (off + 1) ([] : List Value) vs = vs := by cases vs <;> rfl
    rw [e1, e2]
    simpa using h.keep (k.sub (by simp))
  | off + 1, n :: ns, [], us, vs, bs, h, hl, hu => by simp at hl
  | off + 1, n :: ns, a :: as, us, vs, bs, h, hl, hu => by
    obtain ⟨v, vs', c1, c2, rfl, rfl, h1, h2⟩ := repVs_cons_inv h
    cases us with
    | nil => simp at hu
    | cons u us =>
      obtain ⟨pre, mid, post, e, hk⟩ := repVs_putL off (ns := n :: ns) (us := u :: us) h2 (by simp at hl ⊢; omega) hu
      refine ⟨c1 ++ pre, mid, post, by simp [e], fun b2 w' R' k hr => ?_⟩
      have := hk b2 w' R' (k.sub (by intro b hb; simp at hb ⊢; rcases hb with h | h <;> simp [h])) hr
      simpa [putL] using repVs_cons (h1.keep (k.sub (by intro b hb; simp [hb]))) this

theorem keep_refl (bs : List Nat) : Keep w R w R bs := ⟨Step.refl w R, fun _ _ _ => ⟨rfl, fun _ h => h⟩⟩

theorem repVs_putL0 {off : Nat} {ns as : List AVal} {us vs : List Value} (h : RepVs w R N as vs []) (hn : RepVs w R N ns us []) (hl : off + ns.length ≤ as.length) :
    RepVs w R N (putL off ns as) (putL off us vs) [] := by
  obtain ⟨pre, mid, post, e, hk⟩ := repVs_putL off h hl hn.length
  have hpm := List.append_eq_nil_iff.1 e.symm
  obtain ⟨hpm, rfl⟩ := hpm
  obtain ⟨rfl, rfl⟩ := List.append_eq_nil_iff.1 hpm
  simpa using hk [] w R (keep_refl _) hn

theorem fillL_run {place : Nat → Option (Nat × Nat)} {cplace : Nat → Option (Nat × Nat)} (hp : ∀ k x, place k = some x → cplace k = some x) :
    ∀ (ps : List (Nat × AVal)) (cps : List (Nat × Value)) (cells : List AVal) (vs : Array Value) (r : List AVal), ps.map (·.1) = cps.map (·.1) →
      RepVs w R N (ps.map (·.2)) (cps.map (·.2)) [] → RepVs w R N cells vs.toList [] → fillL place ps cells = some r →
      ∃ us : Array Value, Instr.fill cplace vs cps = some us ∧ RepVs w R N r us.toList []
  | [], cps, cells, vs, r, hm, _, hc, h => by
    have : cps = [] := by simpa using hm.symm
    subst this
    simp [fillL] at h
    subst h
    exact ⟨vs, rfl, hc⟩
  | (i, a) :: ps, cps, cells, vs, r, hm, hr, hc, h => by
    cases cps with
    | nil => simp at hm
    | cons q cps =>
      obtain ⟨j, v⟩ := q
      simp at hm
      obtain ⟨rfl, hm⟩ := hm
      simp only [List.map_cons] at hr
      obtain ⟨u, us, b1, b2, e1, e2, h1, h2⟩ := repVs_cons_inv hr
      obtain ⟨rfl, rfl⟩ := List.cons.inj e1
      obtain ⟨rfl, rfl⟩ := List.append_eq_nil_iff.1 e2.symm
      simp only [fillL] at h
      split at h
      · simp at h
      · rename_i off size hpl
        split at h
        · rename_i hcond
          have hcells := acells_rep (unOwn_rep h1) hcond.2.2
          have hlen := hcells.length
          have hvl := hc.length
          have hput := repVs_putL0 (off := off) hc hcells (by omega)
          have e : (putL off v.cells.toList vs.toList).toArray = v.cells.zipIdx.foldl (fun cs (x : Value × Nat) => cs.setIfInBounds (off + x.2) x.1) vs := (fold_putL off v.cells vs).symm
          obtain ⟨us', f1, f2⟩ := fillL_run hp ps cps _ (putL off v.cells.toList vs.toList).toArray r hm h2 (by simpa using hput) h
          refine ⟨us', ?_, f2⟩
          unfold Instr.fill
          simp only [hp _ _ hpl]
          rw [if_neg (by simp at hlen hvl ⊢; omega)]
          rw [← e]
          exact f1
        · simp at h
end
end Go.Tp
