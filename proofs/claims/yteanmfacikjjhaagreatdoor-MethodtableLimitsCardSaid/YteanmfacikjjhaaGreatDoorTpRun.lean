/- The generic layer: how code is run. -/
import Derived.Test.YteanmfacikjjhaaGreatDoorTpSound17
namespace Go.Tp

/-- Slots: those that are named, the others unknown. -/
def mkT : Nat → Nat → List (Nat × AVal) → List AVal
  | 0, _, _ => []
  | n + 1, k, l => (match l.lookup k with | some v => v | none => .undef) :: mkT n (k + 1) l

abbrev iv (n : Int) : AVal := .dat (.flat (.int .i64 n))
abbrev bv (b : Bool) : AVal := .dat (.flat (.bool b))
abbrev sv (s : ByteArray) : AVal := .dat (.flat (.string s))

abbrev Heap := List (Name × AObj)

/-- The call hands back v, with this heap behind it. -/
def Ret (v : AVal) (heap : Heap) (next : Nat) : AVal → Heap → Nat → Prop := fun v' h n => v' = v ∧ h = heap ∧ n = next

/-- The call hands back v and does nothing else. -/
def Gives (P : Program) (G : Globs) (f : FuncId) (args : List AVal) (v : AVal) : Prop := ∀ (heap : Heap) (next : Nat), ACalls P G f args heap next (Ret v heap next)

/-! ### What a call leaves behind and nobody names -/
mutual
def noName : AVal → Bool
  | .ptr _ _ => false
  | .map _ => false
  | .win _ _ _ _ => false
  | .fn _ first captured => noNames first && noNames captured
  | .agg cs => noNames cs
  | .tup cs => noNames cs
  | _ => true
def noNames : List AVal → Bool
  | [] => true
  | a :: r => noName a && noNames r
end

section
variable {w w' : World} {R R' : Own} {M M' M'' : Name → Option Nat}
mutual
theorem RepV.restrict : ∀ {a : AVal} {v v' : Value} {bs bs' : List Nat}, RepV w R M a v bs → RepV w' R' M' a v' bs' → (∀ n b b', M n = some b → M' n = some b' → M'' n = some b') → RepV w' R' M'' a v' bs'
  | .dat _, _, _, _, _, _, h, _ => by simp only [RepV] at h ⊢; exact h
  | .own _, _, _, _, _, _, h, _ => by simp only [RepV] at h ⊢; exact h
  | .ref _, _, _, _, _, _, h, _ => by simp only [RepV] at h ⊢; exact h
  | .ptr n _, _, _, _, _, k, h, hm => by
    simp only [RepV] at k h ⊢
    obtain ⟨_, b, hb, _⟩ := k
    obtain ⟨h1, b', hb', h2⟩ := h
    exact ⟨h1, b', hm n b b' hb hb', h2⟩
  | .map n, _, _, _, _, k, h, hm => by
    simp only [RepV] at k h ⊢
    obtain ⟨_, b, hb, _⟩ := k
    obtain ⟨h1, b', hb', h2⟩ := h
    exact ⟨h1, b', hm n b b' hb hb', h2⟩
  | .win n _ _ _, _, _, _, _, k, h, hm => by
    simp only [RepV] at k h ⊢
    obtain ⟨_, b, cap, hb, _⟩ := k
    obtain ⟨h1, b', cap', hb', h2⟩ := h
    exact ⟨h1, b', cap', hm n b b' hb hb', h2⟩
  | .fn _ first captured, _, _, _, _, k, h, hm => by
    simp only [RepV] at k h ⊢
    obtain ⟨_, vs, us, _, k2, k3⟩ := k
    obtain ⟨h1, vs', us', e, h2, h3⟩ := h
    exact ⟨h1, vs', us', e, RepVs.restrict (as := first) k2 h2 hm, RepVs.restrict (as := captured) k3 h3 hm⟩
  | .agg cs, _, _, _, _, k, h, hm => by
    simp only [RepV] at k h ⊢
    obtain ⟨vs, _, k2⟩ := k
    obtain ⟨vs', e, h2⟩ := h
    exact ⟨vs', e, RepVs.restrict (as := cs) k2 h2 hm⟩
  | .tup cs, _, _, _, _, k, h, hm => by
    simp only [RepV] at k h ⊢
    obtain ⟨vs, _, k2⟩ := k
    obtain ⟨vs', e, h2⟩ := h
    exact ⟨vs', e, RepVs.restrict (as := cs) k2 h2 hm⟩
  | .undef, _, _, _, _, _, h, _ => by simp only [RepV] at h ⊢; exact h
theorem RepVs.restrict : ∀ {as : List AVal} {vs vs' : List Value} {bs bs' : List Nat}, RepVs w R M as vs bs → RepVs w' R' M' as vs' bs' → (∀ n b b', M n = some b → M' n = some b' → M'' n = some b') → RepVs w' R' M'' as vs' bs'
  | [], _, _, _, _, _, h, _ => by simp only [RepVs] at h ⊢; exact h
  | a :: as, _, _, _, _, k, h, hm => by
    simp only [RepVs] at k h ⊢
    obtain ⟨v, vs, b1, b2, _, _, k1, k2⟩ := k
    obtain ⟨v', vs', b1', b2', e1, e2, h1, h2⟩ := h
    exact ⟨v', vs', b1', b2', e1, e2, RepV.restrict (a := a) k1 h1 hm, RepVs.restrict (as := as) k2 h2 hm⟩
end

theorem RepObjs.restrict : ∀ {os : List (Name × AObj)} {bs bs' : List Nat}, RepObjs w R M os bs → RepObjs w' R' M' os bs' → (∀ n b b', M n = some b → M' n = some b' → M'' n = some b') → RepObjs w' R' M'' os bs'
  | [], _, _, _, h, _ => h
  | (n, .cells cs) :: os, _, _, ⟨b, b1, b2, _, hn, ⟨vs, el, sp, _, hr, _⟩, hrest⟩, ⟨b', b1', b2', e', hn', ⟨vs', el', sp', hblk', hr', hR'⟩, hrest'⟩, hm => by
    refine ⟨b', b1', b2', e', hm n b b' hn hn', ⟨vs', el', sp', hblk', ?_, hR'⟩, RepObjs.restrict hrest hrest' hm⟩
    obtain ⟨us1, _, c1, _, _, _, k1, _⟩ := repVs_split hr
    obtain ⟨us1', us2', c1', c2', e1, e2, k1', k2'⟩ := repVs_split hr'
    rw [e1, e2]
    refine repVs_append (k1.restrict k1' hm) ?_
    have hu : ∀ (k : Nat) (us : List Value) (bs : List Nat), RepVs w' R' M' (List.replicate k .undef) us bs → RepVs w' R' M'' (List.replicate k .undef) us bs := by
      intro k
      induction k with
      | zero => intro us bs h; simpa only [List.replicate_zero, RepVs] using h
      | succ k ih =>
        intro us bs h
        rw [List.replicate_succ] at h ⊢
        simp only [RepVs] at h ⊢
        obtain ⟨v, vs', b1, b2, h1, h2, h3, h4⟩ := h
        exact ⟨v, vs', b1, b2, h1, h2, by simpa only [RepV] using h3, ih _ _ h4⟩
    exact hu _ _ _ k2'
  | (n, .map es) :: os, _, _, ⟨b, b1, b2, _, hn, _, hrest⟩, ⟨b', b1', b2', e', hn', ho', hrest'⟩, hm =>
    ⟨b', b1', b2', e', hm n b b' hn hn', ho', RepObjs.restrict hrest hrest' hm⟩

theorem RepObjs.append_inv : ∀ {os os2 : List (Name × AObj)} {bs : List Nat}, RepObjs w R M (os ++ os2) bs → ∃ bs1 bs2, bs = bs1 ++ bs2 ∧ RepObjs w R M os bs1 ∧ RepObjs w R M os2 bs2
  | [], _, bs, h => ⟨[], bs, rfl, rfl, h⟩
  | (n, o) :: os, os2, _, ⟨b, b1, b2, e, hn, ho, hrest⟩ => by
    obtain ⟨c1, c2, e2, h1, h2⟩ := RepObjs.append_inv hrest
    subst e2
    exact ⟨b :: (b1 ++ c1), c2, by simp [e], ⟨b, b1, c1, rfl, hn, ho, h1⟩, h2⟩

mutual
theorem RepV.anyN : ∀ {a : AVal} {v : Value} {bs : List Nat}, noName a = true → RepV w R M a v bs → RepV w R M' a v bs
  | .dat _, _, _, _, h => by simp only [RepV] at h ⊢; exact h
  | .own _, _, _, _, h => by simp only [RepV] at h ⊢; exact h
  | .ref _, _, _, _, h => by simp only [RepV] at h ⊢; exact h
  | .ptr _ _, _, _, hn, _ => by simp [noName] at hn
  | .map _, _, _, hn, _ => by simp [noName] at hn
  | .win _ _ _ _, _, _, hn, _ => by simp [noName] at hn
  | .fn _ first captured, _, _, hn, h => by
    simp only [noName, Bool.and_eq_true] at hn
    simp only [RepV] at h ⊢
    obtain ⟨h1, vs', us', e, h2, h3⟩ := h
    exact ⟨h1, vs', us', e, RepVs.anyN (as := first) hn.1 h2, RepVs.anyN (as := captured) hn.2 h3⟩
  | .agg cs, _, _, hn, h => by
    simp only [noName] at hn
    simp only [RepV] at h ⊢
    obtain ⟨vs', e, h2⟩ := h
    exact ⟨vs', e, RepVs.anyN (as := cs) hn h2⟩
  | .tup cs, _, _, hn, h => by
    simp only [noName] at hn
    simp only [RepV] at h ⊢
    obtain ⟨vs', e, h2⟩ := h
    exact ⟨vs', e, RepVs.anyN (as := cs) hn h2⟩
  | .undef, _, _, _, h => by simp only [RepV] at h ⊢; exact h
theorem RepVs.anyN : ∀ {as : List AVal} {vs : List Value} {bs : List Nat}, noNames as = true → RepVs w R M as vs bs → RepVs w R M' as vs bs
  | [], _, _, _, h => by simp only [RepVs] at h ⊢; exact h
  | a :: as, _, _, hn, h => by
    simp only [noNames, Bool.and_eq_true] at hn
    simp only [RepVs] at h ⊢
    obtain ⟨v', vs', b1', b2', e1, e2, h1, h2⟩ := h
    exact ⟨v', vs', b1', b2', e1, e2, RepV.anyN (a := a) hn.1 h1, RepVs.anyN (as := as) hn.2 h2⟩
end
end

/-- What a call has made and nobody names is forgotten. -/
theorem ACalls.tidy {P : Program} {G : Globs} {f : FuncId} {args : List AVal} {heap : Heap} {next : Nat} {v : AVal} (hv : noName v = true) (h : ACalls P G f args heap next (fun v' h _ => v' = v ∧ ∃ ex, h = ex ++ heap)) : ACalls P G f args heap next (Ret v heap next) := by
  intro w R N cargs bsA bsH bsF ha hh hnd hnx hg hF
  refine (h w R N cargs bsA bsH bsF ha hh hnd hnx hg hF).mono ?_
  rintro e w' ⟨v', cv, heap', next', R', N', bsV, bsH', rfl, ⟨rfl, ex, rfl⟩, hv', hh', hnd', hnx', hk, hN⟩
  obtain ⟨b1, b2, rfl, _, h2⟩ := hh'.append_inv
  let N2 : Name → Option Nat := fun m => match m with | .loc i => N' (.loc i) | .out o => if o < next then N' (.out o) else none
  refine ⟨v', cv, heap, next, R', N2, bsV, b2, rfl, ⟨rfl, rfl, rfl⟩, hv'.anyN hv, hh.restrict h2 ?_, ?_, ?_, hk, ?_⟩
  · intro n b b' hb hb'
    cases n with
    | loc i => simp [outs] at hb
    | out o =>
      simp only [outs] at hb hb' ⊢
      simp only [N2]
      rw [if_pos (hnx o b hb)]
      exact hb'
  · refine List.Nodup.sublist ?_ hnd'
    exact List.Sublist.append (.refl _) (List.Sublist.append (List.sublist_append_right _ _) (.refl _))
  · intro o b hb
    simp only [N2] at hb
    split at hb
    · assumption
    · simp at hb
  · intro o b hb
    simp only [N2]
    rw [if_pos (hnx o b hb)]
    exact hN o b hb

structure Run (P : Program) (G : Globs) (H : Hints) (Ef : Prims → TEnv) (A : CallsT) (C : CodeT) (pr : Prims) : Prop where
  ok : (Ef Prims.std).Ok P
  a : A = ACalls P G
  c : C = ACode P G
  p : pr = Prims.std

section
variable {P : Program} {G : Globs} {H : Hints} {Ef : Prims → TEnv} {A : CallsT} {C : CodeT} {pr : Prims}

theorem Run.code (r : Run P G H Ef A C pr) {c : Code} {Q : Exit → AState → Prop} {s : AState} (hck : chkAll H c = true) (h : awp A C (Ef pr) G H c Q s) : C c Q s := by
  obtain ⟨hE, rfl, rfl, rfl⟩ := r
  exact awp_sound hE c Q s hck h

theorem Run.call (r : Run P G H Ef A C pr) {f : FuncId} {args : List AVal} {heap : Heap} {next : Nat} {Q K : AVal → Heap → Nat → Prop} (h : ACalls P G f args heap next Q) (hk : ∀ v h n, Q v h n → K v h n) : A f args heap next K := by
  rw [r.a]; exact h.mono hk

theorem Run.ret (r : Run P G H Ef A C pr) {f : FuncId} {args : List AVal} {heap heap' : Heap} {next next' : Nat} {v : AVal} {K : AVal → Heap → Nat → Prop} (h : ACalls P G f args heap next (Ret v heap' next')) (hk : K v heap' next') : A f args heap next K :=
  r.call h (by rintro _ _ _ ⟨rfl, rfl, rfl⟩; exact hk)

theorem Run.gives (r : Run P G H Ef A C pr) {f : FuncId} {args : List AVal} {heap : Heap} {next : Nat} {v : AVal} {K : AVal → Heap → Nat → Prop} (h : Gives P G f args v) (hk : K v heap next) : A f args heap next K :=
  r.ret (h heap next) hk

theorem Run.loop (r : Run P G H Ef A C pr) {α : Type} {c : Code} {Q : Exit → AState → Prop} {s : AState} (hck : chkAll H c = true) (ts ls : List Nat) (st : α → AState) (ok : α → Prop) (μ : α → Nat) (x0 : α) (h0 : ok x0) (hs : s.keep ts ls = st x0)
    (round : ∀ x, ok x → ∀ R, (∀ s' x', ok x' → μ x' < μ x → s'.keep ts ls = st x' → R s') → awp A C (Ef pr) G H c (seqQ R Q) (st x)) : C (.loop c) Q s := by
  obtain ⟨hE, rfl, rfl, rfl⟩ := r
  exact acode_loop ts ls st ok μ x0 h0 hs (fun x hx => awp_sound hE c _ _ hck (round x hx _ (fun s' x' h1 h2 h3 => ⟨x', h1, h2, h3⟩)))

theorem acalls_start {Ef : Prims → TEnv} (hE : (Ef Prims.std).Ok P) {f : FuncId} {fn : Func} {c : Code} (hf : P.funcs[f]? = some fn) (hb : fn.body = some c) (hck : chkAll H c = true) {args : List AVal} {heap : Heap} {next : Nat} {Q : AVal → Heap → Nat → Prop}
    (h : ∀ (A : CallsT) (C : CodeT) wrap add dif mul lt eq slt seq cat elt byte sub ssub app key len slen rem quo mx (Qv : AVal → Heap → Nat → Prop), Run P G H Ef A C ⟨wrap, add, dif, mul, lt, eq, slt, seq, cat, elt, byte, sub, ssub, app, key, len, slen, rem, quo, mx⟩ → Qv = Q → bndL args → bndO heap →
      awp A C (Ef ⟨wrap, add, dif, mul, lt, eq, slt, seq, cat, elt, byte, sub, ssub, app, key, len, slen, rem, quo, mx⟩) G H c (bodyQ (Ef ⟨wrap, add, dif, mul, lt, eq, slt, seq, cat, elt, byte, sub, ssub, app, key, len, slen, rem, quo, mx⟩) fn.results.toList Qv) (enter fn.ntmps args heap next)) : ACalls P G f args heap next Q :=
  acalls_of_awp (H := H) hE hf hb hck (h _ _ _ _ _ _ _ _ _ _ _ _ _ _ _ _ _ _ _ _ _ _ _ ⟨hE, rfl, rfl, rfl⟩ rfl)

section
variable {wrap : IntKind → Int → Int} {add dif mul : IntKind → Int → Int → Int} {lt eq : Int → Int → Bool} {slt seq : ByteArray → ByteArray → Bool} {cat : ByteArray → ByteArray → Option ByteArray} {elt : List Dat → Int → Option Dat} {byte : ByteArray → Int → Option UInt8}
  {sub : Nat → List Dat → Option Int → Option Int → Option (List Dat)} {ssub : ByteArray → Option Int → Option Int → Option ByteArray} {app : Nat → Nat → List Dat → List Dat → Option (List Dat)}
  {key : TypeDesc → Value → List (Value × Dat) → Option (Option (Nat × Dat))} {len : List Dat → Nat} {slen : ByteArray → Nat} {rem quo mx : Int → Int → Int}

theorem Run.wrap_eq (r : Run P G H Ef A C ⟨wrap, add, dif, mul, lt, eq, slt, seq, cat, elt, byte, sub, ssub, app, key, len, slen, rem, quo, mx⟩) (k : IntKind) (n : Int) : wrap k n = k.wrap n := by have := congrArg Prims.wrap r.p; exact congrFun (congrFun this k) n
theorem Run.add_eq (r : Run P G H Ef A C ⟨wrap, add, dif, mul, lt, eq, slt, seq, cat, elt, byte, sub, ssub, app, key, len, slen, rem, quo, mx⟩) (k : IntKind) (a b : Int) : add k a b = k.wrap (a + b) := by have := congrArg Prims.add r.p; exact congrFun (congrFun (congrFun this k) a) b
theorem Run.dif_eq (r : Run P G H Ef A C ⟨wrap, add, dif, mul, lt, eq, slt, seq, cat, elt, byte, sub, ssub, app, key, len, slen, rem, quo, mx⟩) (k : IntKind) (a b : Int) : dif k a b = k.wrap (a - b) := by have := congrArg Prims.dif r.p; exact congrFun (congrFun (congrFun this k) a) b
theorem Run.mul_eq (r : Run P G H Ef A C ⟨wrap, add, dif, mul, lt, eq, slt, seq, cat, elt, byte, sub, ssub, app, key, len, slen, rem, quo, mx⟩) (k : IntKind) (a b : Int) : mul k a b = k.wrap (a * b) := by have := congrArg Prims.mul r.p; exact congrFun (congrFun (congrFun this k) a) b
theorem Run.lt_eq (r : Run P G H Ef A C ⟨wrap, add, dif, mul, lt, eq, slt, seq, cat, elt, byte, sub, ssub, app, key, len, slen, rem, quo, mx⟩) (a b : Int) : lt a b = decide (a < b) := by have := congrArg Prims.lt r.p; exact congrFun (congrFun this a) b
theorem Run.eq_eq (r : Run P G H Ef A C ⟨wrap, add, dif, mul, lt, eq, slt, seq, cat, elt, byte, sub, ssub, app, key, len, slen, rem, quo, mx⟩) (a b : Int) : eq a b = decide (a = b) := by have := congrArg Prims.eq r.p; exact congrFun (congrFun this a) b
theorem Run.slt_eq (r : Run P G H Ef A C ⟨wrap, add, dif, mul, lt, eq, slt, seq, cat, elt, byte, sub, ssub, app, key, len, slen, rem, quo, mx⟩) (a b : ByteArray) : slt a b = Op.bytesLess a.toList b.toList := by have := congrArg Prims.slt r.p; exact congrFun (congrFun this a) b
theorem Run.seq_eq (r : Run P G H Ef A C ⟨wrap, add, dif, mul, lt, eq, slt, seq, cat, elt, byte, sub, ssub, app, key, len, slen, rem, quo, mx⟩) (a b : ByteArray) : seq a b = (a.toList == b.toList) := by have := congrArg Prims.seq r.p; exact congrFun (congrFun this a) b
theorem Run.cat_eq (r : Run P G H Ef A C ⟨wrap, add, dif, mul, lt, eq, slt, seq, cat, elt, byte, sub, ssub, app, key, len, slen, rem, quo, mx⟩) (a b : ByteArray) (h : a.size + b.size ≤ 9223372036854775807) : cat a b = some (a ++ b) := by
  have e : cat a b = Prims.std.cat a b := congrFun (congrFun (congrArg Prims.cat r.p) a) b
  rw [e]
  simp only [Prims.std]
  rw [if_neg]
  have : IntKind.i64.max = 9223372036854775807 := by decide
  rw [this]
  omega
theorem Run.elt_eq (r : Run P G H Ef A C ⟨wrap, add, dif, mul, lt, eq, slt, seq, cat, elt, byte, sub, ssub, app, key, len, slen, rem, quo, mx⟩) {es : List Dat} {n : Nat} {d : Dat} (h : es[n]? = some d) : elt es (Int.ofNat n) = some d := by
  have e : elt es (Int.ofNat n) = Prims.std.elt es (Int.ofNat n) := congrFun (congrFun (congrArg Prims.elt r.p) es) _
  rw [e]
  simp only [Prims.std]
  rw [if_pos (show (0 : Int) ≤ Int.ofNat n from Int.natCast_nonneg n)]
  exact h
theorem Run.byte_eq (r : Run P G H Ef A C ⟨wrap, add, dif, mul, lt, eq, slt, seq, cat, elt, byte, sub, ssub, app, key, len, slen, rem, quo, mx⟩) {s : ByteArray} {n : Nat} {d : UInt8} (h : s[n]? = some d) : byte s (Int.ofNat n) = some d := by
  have e : byte s (Int.ofNat n) = Prims.std.byte s (Int.ofNat n) := congrFun (congrFun (congrArg Prims.byte r.p) s) _
  rw [e]
  simp only [Prims.std]
  rw [if_pos (show (0 : Int) ≤ Int.ofNat n from Int.natCast_nonneg n)]
  exact h
theorem Run.len_eq (r : Run P G H Ef A C ⟨wrap, add, dif, mul, lt, eq, slt, seq, cat, elt, byte, sub, ssub, app, key, len, slen, rem, quo, mx⟩) (es : List Dat) : len es = es.length := by have := congrArg Prims.len r.p; exact congrFun this es
theorem Run.slen_eq (r : Run P G H Ef A C ⟨wrap, add, dif, mul, lt, eq, slt, seq, cat, elt, byte, sub, ssub, app, key, len, slen, rem, quo, mx⟩) (s : ByteArray) : slen s = s.size := by have := congrArg Prims.slen r.p; exact congrFun this s
theorem Run.rem_eq (r : Run P G H Ef A C ⟨wrap, add, dif, mul, lt, eq, slt, seq, cat, elt, byte, sub, ssub, app, key, len, slen, rem, quo, mx⟩) (a b : Int) : rem a b = a.tmod b := by have := congrArg Prims.rem r.p; exact congrFun (congrFun this a) b
theorem Run.quo_eq (r : Run P G H Ef A C ⟨wrap, add, dif, mul, lt, eq, slt, seq, cat, elt, byte, sub, ssub, app, key, len, slen, rem, quo, mx⟩) (a b : Int) : quo a b = a.tdiv b := by have := congrArg Prims.quo r.p; exact congrFun (congrFun this a) b
theorem Run.mx_eq (r : Run P G H Ef A C ⟨wrap, add, dif, mul, lt, eq, slt, seq, cat, elt, byte, sub, ssub, app, key, len, slen, rem, quo, mx⟩) (a b : Int) : mx a b = if a < b then b else a := by have := congrArg Prims.mx r.p; exact congrFun (congrFun this a) b
theorem Run.key_eq (r : Run P G H Ef A C ⟨wrap, add, dif, mul, lt, eq, slt, seq, cat, elt, byte, sub, ssub, app, key, len, slen, rem, quo, mx⟩) (td : TypeDesc) (k : Value) (es : List (Value × Dat)) : key td k es = findKey td k es 0 := by have := congrArg Prims.key r.p; exact congrFun (congrFun (congrFun this td) k) es
theorem Run.app_eq (r : Run P G H Ef A C ⟨wrap, add, dif, mul, lt, eq, slt, seq, cat, elt, byte, sub, ssub, app, key, len, slen, rem, quo, mx⟩) {size bytes : Nat} {es ds : List Dat} (hs : 0 < size) (h1 : ∀ d ∈ ds, d.cells.length = size) (h2 : ∀ d ∈ es, d.cells.length = size) (hb : 0 < bytes) (h3 : (es.length + ds.length) * bytes ≤ 140737488355328) (h4 : es.length + ds.length ≤ lim) :
    app size bytes es ds = some (es ++ ds) := by
  have e : app size bytes es ds = Prims.std.app size bytes es ds := congrFun (congrFun (congrFun (congrFun (congrArg Prims.app r.p) size) bytes) es) ds
  rw [e]
  simp only [Prims.std]
  cases size with
  | zero => omega
  | succ n => exact if_pos ⟨h1, h2, hb, h3, h4⟩
theorem Run.sub_eq (r : Run P G H Ef A C ⟨wrap, add, dif, mul, lt, eq, slt, seq, cat, elt, byte, sub, ssub, app, key, len, slen, rem, quo, mx⟩) {size : Nat} {es : List Dat} {lo hi : Option Int} {l h : Nat} (hs : 0 < size) (h1 : ∀ d ∈ es, d.cells.length = size) (hh : boundOf hi es.length = some h) (hl : boundOf lo 0 = some l) (h2 : l ≤ h) (h3 : h ≤ es.length) :
    sub size es lo hi = some ((es.take h).drop l) := by
  have e : sub size es lo hi = Prims.std.sub size es lo hi := congrFun (congrFun (congrFun (congrFun (congrArg Prims.sub r.p) size) es) lo) hi
  rw [e]
  simp only [Prims.std]
  rw [if_pos ⟨h1, hs⟩, hh, hl]
  exact if_pos ⟨h2, h3⟩
theorem Run.ssub_eq (r : Run P G H Ef A C ⟨wrap, add, dif, mul, lt, eq, slt, seq, cat, elt, byte, sub, ssub, app, key, len, slen, rem, quo, mx⟩) {s : ByteArray} {lo hi : Option Int} {l h : Nat} (hh : boundOf hi s.size = some h) (hl : boundOf lo 0 = some l) (h2 : l ≤ h) (h3 : h ≤ s.size) : ssub s lo hi = some (s.extract l h) := by
  have e : ssub s lo hi = Prims.std.ssub s lo hi := congrFun (congrFun (congrFun (congrArg Prims.ssub r.p) s) lo) hi
  rw [e]
  simp only [Prims.std]
  rw [hh, hl]
  exact if_pos ⟨h2, h3⟩
theorem Run.incS (r : Run P G H Ef A C ⟨wrap, add, dif, mul, lt, eq, slt, seq, cat, elt, byte, sub, ssub, app, key, len, slen, rem, quo, mx⟩) {n : Nat} (h : n < 9223372036854775807) : add .i64 (Int.ofNat n) 1 = Int.ofNat (n + 1) := by
  rw [r.add_eq]
  have h1 : (Int.ofNat n + 1 : Int) = ((n + 1 : Nat) : Int) := rfl
  rw [h1]
  simp [IntKind.wrap, IntKind.signed, IntKind.bits]
  omega
/-- A counter that stays in its range. -/
theorem Run.inc (r : Run P G H Ef A C ⟨wrap, add, dif, mul, lt, eq, slt, seq, cat, elt, byte, sub, ssub, app, key, len, slen, rem, quo, mx⟩) {n : Nat} (h : n < lim) : add .i64 (Int.ofNat n) 1 = Int.ofNat (n + 1) := by
  rw [r.add_eq]
  unfold lim at h
  have h1 : (Int.ofNat n + 1 : Int) = ((n + 1 : Nat) : Int) := rfl
  rw [h1]
  simp [IntKind.wrap, IntKind.signed, IntKind.bits]
  omega
end
end

theorem wrap_i64 {n : Int} (h1 : -9223372036854775808 ≤ n) (h2 : n ≤ 9223372036854775807) : IntKind.i64.wrap n = n := by
  simp [IntKind.wrap, IntKind.signed, IntKind.bits]
  omega
end Go.Tp
