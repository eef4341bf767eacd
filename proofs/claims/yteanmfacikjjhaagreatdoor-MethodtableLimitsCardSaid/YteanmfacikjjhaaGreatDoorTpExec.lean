/- The generic layer: code run to its end on a frame's state, by reckoning. -/
import Derived.Test.YteanmfacikjjhaaGreatDoorTpRun
import Derived.Test.YteanmfacikjjhaaGreatDoorTpRen
namespace Go.Tp


structure XRes where
  val : AVal
  heap : Heap
  next : Nat

abbrev XCalls := FuncId → List AVal → Heap → Nat → Option XRes

/-- A function's code, slots, results, and the orders of its regions. -/
structure XFn where
  code : Code
  ntmps : Nat
  results : List ResultVar
  ord : Nat → RHint
  /-- the slots that are read behind a region, as bits -/
  live : Nat → Nat

section
variable (X : XCalls) (E : TEnv) (G : Globs) (H : Hints)

def xone (all : List Oper) (o : Oper) (s : AState) : Option AState :=
  match wantedA all s o.guard with
  | none => none
  | some b =>
    if b = true then
      (match isCall o.op with
       | some c => (match acallee E G H c s with
         | some (f, args, s2) => (match X f args s2.heap s2.next with
           | some r => some (({ s2 with heap := r.heap, next := r.next } : AState).put o.dst r.val)
           | none => none)
         | none => none)
       | none => astep E G (readOnly H.moves all o) (takeR H all o) o s)
    else some (s.put o.dst (.tup []))

def xops (all : List Oper) : List Oper → AState → Option AState
  | [], s => some s
  | o :: rest, s => (match xone X E G H all o s with | some s' => xops all rest s' | none => none)

def xopL (fh : Bool) (tk : List Nat) (all : List Oper) (o : Oper) (s : AState) : Option AState :=
  match wantedA all s o.guard with
  | none => none
  | some b =>
    if b = true then
      (match isCall o.op with
       | some c => (match acalleeD E G H c s with
         | some (f, args, s2) => (match isPure H o with
           | true => (match X f args [] s2.next with
             | some ⟨v, [], n⟩ => some (({ s2 with next := n } : AState).put o.dst v)
             | _ => none)
           | false => (match X f args s2.heap s2.next with
             | some r => (match !isRead H o || staysB s2.heap r.heap with
               | true => some (({ s2 with heap := r.heap, next := r.next } : AState).put o.dst r.val)
               | false => none)
             | none => none))
         | none => none)
       | none => (match appSlot o.op with
         | some t => (match showTk fh all (tkFor all t (tkNil tk t s)) s with
           | some s1 => astep E G false false o s1
           | none => none)
         | none => (match isStore o.op with
           | true => astep E G (readOnly H.moves all o) (takeR H all o) o s
           | false => none)))
    else some (s.put o.dst (.tup []))

def xord (tk : List Nat) (fh : Bool) (fq : Nat → Bool) (all : List Oper) : List (Nat × Bool) → AState → Option AState
  | [], s => some s
  | (i, lone) :: r, s =>
    match all[i]? with
    | none => none
    | some o =>
      if lone = true then (match xopL X E G H fh tk all o s with | some s' => xord tk fh fq all r s' | none => none)
      else (match stepQ E G (fh || fq i) all o s with
        | some a => xord tk fh fq all r (s.put o.dst a)
        | none => none)

def xexplC (all : List Oper) : Nat → Array Bool → AState → Option AState
  | 0, _, s => some s
  | m + 1, listed, s => match Region.ready .any all.toArray listed with
    | [] => some s
    | i :: _ => (match all[i]? with
      | some o => (match xone X E G H all o s with | some s1 => xexplC all m (setL listed i) s1 | none => none)
      | none => none)
def xexplA (all : List Oper) (k : Nat) (s0 : AState) : Nat → Array Bool → AState → Bool
  | 0, listed, s => (Region.ready .any all.toArray listed).isEmpty && renB k s0 s
  | m + 1, listed, s => match Region.ready .any all.toArray listed with
    | [] => renB k s0 s
    | i :: l => (i :: l).all fun i => match all[i]? with
      | some o => (match xone X E G H all o s with | some s1 => xexplA all k s0 m (setL listed i) s1 | none => false)
      | none => false

def eqBs : List Bool → List Bool → Bool
  | [], [] => true
  | true :: l, true :: r => eqBs l r
  | false :: l, false :: r => eqBs l r
  | _, _ => false

def xloneC (h : RHint) (all : List Oper) : Nat → Array Bool → AState → Option AState
  | 0, _, s => some s
  | m + 1, listed, s => match Region.ready .any all.toArray listed with
    | [] => none
    | i :: _ => (match all[i]? with
      | some o => (match xopL X E G H (quietHeap H all h.pre) h.tk all o s with | some s1 => xloneC h all m (setL listed i) s1 | none => none)
      | none => none)
def xloneA (h : RHint) (all : List Oper) (p : Array Bool) (s0 : AState) : Nat → Array Bool → AState → Bool
  | 0, listed, s => eqBs listed.toList p.toList && sameS s0 s
  | m + 1, listed, s => !eqBs listed.toList p.toList && !(Region.ready .any all.toArray listed).isEmpty && (Region.ready .any all.toArray listed).all fun i => h.pre.contains (i, true) && (match all[i]? with
      | some o => (match xopL X E G H (quietHeap H all h.pre) h.tk all o s with | some s1 => xloneA h all p s0 m (setL listed i) s1 | none => false)
      | none => false)
def xdrawL (all : List Oper) (h : RHint) (s : AState) : Option AState :=
  match xord X E G H h.tk (quietHeap H all h.pre) (quietAt H all h.pre) all (quietPre h.pre) s with
  | some s1 => (match xloneC X E G H h all (h.pre.length - (quietPre h.pre).length) (preAll (quietPre h.pre) (Array.replicate all.length false)) s1 with
    | some s0 => (match xloneA X E G H h all (preAll h.pre (Array.replicate all.length false)) s0 (h.pre.length - (quietPre h.pre).length) (preAll (quietPre h.pre) (Array.replicate all.length false)) s1 with
      | true => (match showMk E all h.nw s0 with
        | some s2 => xops X E G H all (pickOps all h.tail) s2
        | none => none)
      | false => none)
    | none => none)
  | none => none

def xdraw (all : List Oper) (h : RHint) (s : AState) : Option AState :=
  if explMark h = true then (match xexplC X E G H all all.length (Array.replicate all.length false) s with
    | some s0 => (match xexplA X E G H all s.next s0 all.length (Array.replicate all.length false) s with | true => some s0 | false => none)
    | none => none)
  else
  if loneMark h = true then xdrawL X E G H all (unmark h) s else
  match xord X E G H h.tk (quietHeap H all h.pre) (quietAt H all h.pre) all h.pre s with
  | some s1 => (match showMk E all h.nw s1 with
    | some s2 => xops X E G H all (pickOps all h.tail) s2
    | none => none)
  | none => none

def xloop (body : AState → Option (Exit × AState)) : Nat → AState → Option (Exit × AState)
  | 0, _ => none
  | n + 1, s => match body s with
    | some (.normal, s') => xloop body n s'
    | r => r

def xcode (fuel : Nat) : Code → AState → Option (Exit × AState)
  | .skip, s => some (.normal, s)
  | .region id ops draw, s =>
    (match (if draw = true then xdraw X E G H ops.toList (H.ord id) s else xops X E G (H.at id) ops.toList ops.toList s) with
     | some s' => some (.normal, s')
     | none => none)
  | .seq x y, s => (match xcode fuel x s with
    | some (.normal, s') => xcode fuel y s'
    | r => r)
  | .cond c x y, s => (match aeval G s c with
    | .dat (.flat (.bool b)) => if b = true then xcode fuel x s else xcode fuel y s
    | _ => none)
  | .block id c, s => (match xcode fuel c s with
    | some (.exit i, s') => if Nat.beq i id = true then some (.normal, s') else some (.exit i, s')
    | r => r)
  | .exit id, s => some (.exit id, s)
  | .ret, s => some (.ret, s)
  | .loop c, s => xloop (xcode fuel c) fuel s
  | _, _ => none

def xret (rs : List ResultVar) (s : AState) : Option XRes :=
  match retVals E s rs with
  | none => none
  | some vs =>
    if noLocL (tidyL vs) = true then some ⟨pack (tidyL vs), s.heap, s.next⟩
    else match expAll (repeatL s.locs.length (locNames s.locs)) s (tidyL vs) with
      | (s', vs') => if noLocL vs' = true then some ⟨pack vs', s'.heap, s'.next⟩ else none
end

/-- A call, run. -/
def xcall (E : TEnv) (G : Globs) (moves caps : FuncId → Bool) (F : FuncId → Option XFn) (fuel : Nat) : Nat → XCalls
  | 0 => fun _ _ _ _ => none
  | n + 1 => fun f args heap next =>
    match F f with
    | none => none
    | some x => (match xcode (xcall E G moves caps F fuel n) E G ⟨moves, x.ord, caps, rowsOf caps f⟩ fuel x.code (enter x.ntmps args heap next) with
      | some (.ret, s) => xret E x.results s
      | some (.normal, s) => xret E x.results s
      | _ => none)

/-! ### It is what the program does -/
def XQ (r : XRes) : AVal → Heap → Nat → Prop := fun v h n => v = r.val ∧ h = r.heap ∧ n = r.next

section
variable {P : Program} {X : XCalls} {E : TEnv} {G : Globs} {H : Hints}

def XOk (P : Program) (G : Globs) (X : XCalls) : Prop := ∀ f args heap next r, X f args heap next = some r → ACalls P G f args heap next (XQ r)

theorem xone_sound (hX : XOk P G X) {all : List Oper} {o : Oper} {s s' : AState} (h : xone X E G H all o s = some s') {K : AState → Prop} (hK : K s') : aone (ACalls P G) E G H all o K s := by
  unfold xone at h
  unfold aone
  split at h
  · simp at h
  · rename_i b hb
    rw [hb]
    dsimp only
    split at h
    · rename_i hb1
      rw [if_pos hb1]
      split at h
      · rename_i c hc
        rw [hc]
        dsimp only
        split at h
        · rename_i f args s2 hcal
          rw [hcal]
          dsimp only
          split at h
          · rename_i r hr
            simp at h
            refine (hX _ _ _ _ _ hr).mono ?_
            rintro v hh n ⟨rfl, rfl, rfl⟩ _ _
            rw [h]; exact hK
          · simp at h
        · simp at h
      · rename_i hc
        rw [hc]
        dsimp only
        rw [h]
        exact hK
    · rename_i hb1
      rw [if_neg hb1]
      simp at h
      rw [h]; exact hK

theorem xops_sound (hX : XOk P G X) {all : List Oper} {K : AState → Prop} : ∀ {ops : List Oper} {s s' : AState}, xops X E G H all ops s = some s' → K s' → aops (ACalls P G) E G H all K ops s
  | [], s, s', h, hK => by simp [xops] at h; subst h; exact hK
  | o :: rest, s, s', h, hK => by
    simp only [xops] at h
    simp only [aops, askK_eq]
    split at h
    · rename_i s1 h1
      exact xone_sound hX h1 (xops_sound hX h hK)
    · simp at h

theorem xopL_sound (hX : XOk P G X) {fh : Bool} {tk : List Nat} {all : List Oper} {o : Oper} {s s' : AState} (h : xopL X E G H fh tk all o s = some s') {K : AState → Prop} (hK : K s') : opL (ACalls P G) E G H fh tk all o K s := by
  unfold xopL at h
  unfold opL
  split at h
  · simp at h
  · rename_i b hb
    rw [hb]
    dsimp only
    split at h
    · rename_i hb1
      rw [if_pos hb1]
      split at h
      · rename_i c hc
        rw [hc]
        dsimp only
        split at h
        · rename_i f args s2 hcal
          rw [hcal]
          dsimp only
          cases hpu : isPure H o with
          | true =>
            rw [hpu] at h
            dsimp only at h ⊢
            split at h
            · rename_i v n hr
              simp at h
              refine (hX _ _ _ _ _ hr).mono ?_
              rintro v hh n ⟨rfl, rfl, rfl⟩ _ _
              exact ⟨rfl, by rw [h]; exact hK⟩
            · simp at h
          | false =>
            rw [hpu] at h
            dsimp only at h ⊢
            split at h
            · rename_i r hr
              split at h
              · rename_i hst
                simp at h
                refine (hX _ _ _ _ _ hr).mono ?_
                rintro v hh n ⟨rfl, rfl, rfl⟩ _ _
                refine ⟨fun hrd => ?_, by rw [h]; exact hK⟩
                rw [hrd] at hst
                exact staysB_spec (by simpa using hst)
              · simp at h
            · simp at h
        · simp at h
      · rename_i hc
        rw [hc]
        dsimp only
        split at h
        · rename_i t ht
          rw [ht]
          dsimp only
          split at h
          · rename_i s1 hs1
            rw [hs1]
            dsimp only
            rw [h]
            exact hK
          · simp at h
        · rename_i ht
          rw [ht]
          dsimp only
          split at h
          · rename_i hst
            rw [hst]
            dsimp only
            rw [h]
            exact hK
          · simp at h
    · rename_i hb1
      rw [if_neg hb1]
      simp at h
      rw [h]; exact hK

theorem xord_sound (hX : XOk P G X) {tk : List Nat} {fh : Bool} {fq : Nat → Bool} {all : List Oper} {T : AState → Prop} : ∀ {l : List (Nat × Bool)} {s s' : AState}, xord X E G H tk fh fq all l s = some s' → T s' → aordP (ACalls P G) E G H tk fh fq all T l s
  | [], s, s', h, hK => by simp [xord] at h; subst h; exact hK
  | (i, lone) :: rest, s, s', h, hK => by
    simp only [xord] at h
    simp only [aordP]
    split at h
    · simp at h
    · rename_i o ho
      rw [ho]
      dsimp only
      simp only [askK_eq]
      split at h
      · rename_i hl
        rw [if_pos hl]
        split at h
        · rename_i s1 h1
          exact xopL_sound hX h1 (xord_sound hX h hK)
        · simp at h
      · rename_i hl
        rw [if_neg hl]
        split at h
        · rename_i a ha
          rw [ha]
          exact xord_sound hX h hK
        · simp at h

theorem xexplA_sound (hX : XOk P G X) {all : List Oper} {k : Nat} {s0 : AState} {Q : AState → Prop} (hQ : Q s0) : ∀ (m : Nat) (listed : Array Bool) (s : AState), xexplA X E G H all k s0 m listed s = true → aexpl (ACalls P G) E G H all (fun s' => ∃ s0, Q s0 ∧ Renm G k s0 s') m listed s
  | 0, listed, s, h => by
    simp only [xexplA, Bool.and_eq_true, List.isEmpty_iff] at h
    exact ⟨h.1, s0, hQ, renB_spec h.2⟩
  | m + 1, listed, s, h => by
    simp only [xexplA] at h
    simp only [aexpl]
    split at h
    · rename_i he
      exact .inl ⟨he, s0, hQ, renB_spec h⟩
    · rename_i i l he
      refine .inr ⟨by rw [he]; simp, ?_⟩
      rw [he]
      intro j hj
      have h1 := List.all_eq_true.1 h j hj
      split at h1
      · rename_i o ho
        split at h1
        · rename_i s1 hs1
          exact ⟨o, ho, xone_sound hX hs1 (xexplA_sound hX hQ m _ s1 h1)⟩
        · simp at h1
      · simp at h1

theorem eqBs_spec : ∀ {a b : List Bool}, eqBs a b = true ↔ a = b
  | [], [] => by simp [eqBs]
  | [], _ :: _ => by simp [eqBs]
  | _ :: _, [] => by simp [eqBs]
  | true :: l, true :: r => by simp [eqBs, eqBs_spec (a := l) (b := r)]
  | false :: l, false :: r => by simp [eqBs, eqBs_spec (a := l) (b := r)]
  | true :: l, false :: r => by simp [eqBs]
  | false :: l, true :: r => by simp [eqBs]

theorem xloneA_sound (hX : XOk P G X) {h : RHint} {all : List Oper} {p : Array Bool} {s0 : AState} {K : AState → Prop} (hK : K s0) : ∀ (m : Nat) (listed : Array Bool) (s : AState), xloneA X E G H h all p s0 m listed s = true → aloneP (ACalls P G) E G H h all p K m listed s
  | 0, listed, s, hh => by
    simp only [xloneA, Bool.and_eq_true] at hh
    refine ⟨Array.ext' (eqBs_spec.1 hh.1), ?_⟩
    rw [← sameS_spec hh.2]
    exact hK
  | m + 1, listed, s, hh => by
    simp only [xloneA, Bool.and_eq_true, Bool.not_eq_true'] at hh
    obtain ⟨⟨h1, h2⟩, h3⟩ := hh
    refine ⟨fun e => ?_, fun e => by rw [e] at h2; simp at h2, fun i hi => ?_⟩
    · rw [e, eqBs_spec.2 rfl] at h1
      simp at h1
    · have h4 := List.all_eq_true.1 h3 i hi
      simp only [Bool.and_eq_true] at h4
      refine ⟨by simpa using h4.1, ?_⟩
      have h5 := h4.2
      split at h5
      · rename_i o ho
        split at h5
        · rename_i s1 hs1
          exact ⟨o, ho, xopL_sound hX hs1 (xloneA_sound hX hK m _ s1 h5)⟩
        · simp at h5
      · simp at h5

theorem xdrawL_sound (hX : XOk P G X) {all : List Oper} {h : RHint} {s s' : AState} (hh : xdrawL X E G H all h s = some s') {Q : AState → Prop} (hQ : Q s') : adrawL (ACalls P G) E G H all h Q s := by
  unfold xdrawL at hh
  unfold adrawL
  split at hh
  · rename_i s1 h1
    refine xord_sound hX h1 ?_
    split at hh
    · rename_i s0 _
      split at hh
      · rename_i h2
        refine xloneA_sound hX ?_ _ _ _ h2
        split at hh
        · rename_i s2 h3
          rw [h3]
          exact xops_sound hX hh hQ
        · simp at hh
      · simp at hh
    · simp at hh
  · simp at hh

theorem xdraw_sound (hX : XOk P G X) {all : List Oper} {h : RHint} {s s' : AState} (hh : xdraw X E G H all h s = some s') {Q : AState → Prop} (hQ : Q s') : adraw (ACalls P G) E G H all h Q s := by
  unfold xdraw at hh
  unfold adraw
  by_cases hx : explMark h = true
  · rw [if_pos hx] at hh
    rw [if_pos hx]
    split at hh
    · rename_i s0 _
      split at hh
      · rename_i h2
        simp only [Option.some.injEq] at hh
        subst hh
        exact xexplA_sound hX hQ _ _ _ h2
      · simp at hh
    · simp at hh
  rw [if_neg hx] at hh
  rw [if_neg hx]
  by_cases hlm : loneMark h = true
  · rw [if_pos hlm] at hh
    rw [if_pos hlm]
    exact xdrawL_sound hX hh hQ
  rw [if_neg hlm] at hh
  rw [if_neg hlm]
  split at hh
  · rename_i s1 h1
    refine xord_sound hX h1 ?_
    split at hh
    · rename_i s2 h2
      rw [h2]
      exact xops_sound hX hh hQ
    · simp at hh
  · simp at hh

theorem xloop_sound {c : Code} {body : AState → Option (Exit × AState)} (hb : ∀ s e s', body s = some (e, s') → ∀ Q : Exit → AState → Prop, Q e s' → ACode P G c Q s) {n : Nat} {s s' : AState} {e : Exit}
    (h : xloop body n s = some (e, s')) {Q : Exit → AState → Prop} (hQ : Q e s') : ACode P G (.loop c) Q s := by
  intro w R N act bsT bsL bsH bsF hr D hd
  refine wp_loop_ghost (I := fun n a w' => ∃ s1 R' N' bsT' bsL' bsH', xloop body n s1 = some (e, s') ∧ RelB G w' R' N' a.tmps.toList s1 undef .undef [] bsT' bsL' bsH' bsF ∧ a.defers = D ∧ Keep w R w' R' bsF ∧ (∀ o b, N (.out o) = some b → N' (.out o) = some b)) (n0 := n) ?_ ?_
  · exact ⟨s, R, N, bsT, bsL, bsH, h, hr, hd, keep_refl _, fun _ _ h => h⟩
  · rintro n a w' ⟨s1, R', N', bsT', bsL', bsH', hx, hr', hd', hk, hN⟩
    cases n with
    | zero => simp [xloop] at hx
    | succ n =>
      simp only [xloop] at hx
      have key : ∀ e1 s2, body s1 = some (e1, s2) → (e1 = .normal → xloop body n s2 = some (e, s')) → (e1 ≠ .normal → e1 = e ∧ s2 = s') → c.wp P (Exit.then (fun a' w' => ∃ n', n' < n + 1 ∧ ∃ s1 R' N' bsT' bsL' bsH', xloop body n' s1 = some (e, s') ∧ RelB G w' R' N' a'.tmps.toList s1 undef .undef [] bsT' bsL' bsH' bsF ∧ a'.defers = D ∧ Keep w R w' R' bsF ∧ (∀ o b, N (.out o) = some b → N' (.out o) = some b)) (CPost G D Q w R N bsF)) a w' := by
        intro e1 s2 hbody h1 h2
        refine wp_mono (hb s1 e1 s2 hbody (fun e' s'' => e' = e1 ∧ s'' = s2) ⟨rfl, rfl⟩ w' R' N' a bsT' bsL' bsH' bsF hr' hd') ?_
        rintro e3 a3 w3 ⟨s3, R3, N3, bsT3, bsL3, bsH3, ⟨rfl, rfl⟩, hr3, hd3, hk3, hN3⟩
        by_cases he : e3 = .normal
        · subst he
          exact ⟨n, Nat.lt_succ_self n, s3, R3, N3, bsT3, bsL3, bsH3, h1 rfl, hr3, hd3, hk.trans hk3, fun o b h => hN3 o b (hN o b h)⟩
        · obtain ⟨rfl, rfl⟩ := h2 he
          have : CPost G D Q w R N bsF e3 a3 w3 := ⟨s3, R3, N3, bsT3, bsL3, bsH3, hQ, hr3, hd3, hk.trans hk3, fun o b h => hN3 o b (hN o b h)⟩
          cases e3 with
          | normal => exact (he rfl).elim
          | _ => exact this
      cases hbd : body s1 with
      | none => rw [hbd] at hx; simp at hx
      | some r =>
        obtain ⟨e1, s2⟩ := r
        rw [hbd] at hx
        cases e1 with
        | normal => exact key _ _ hbd (fun _ => hx) (fun h => (h rfl).elim)
        | _ => simp at hx; exact key _ _ hbd (fun h => by simp at h) (fun _ => hx)

theorem xcode_sound (hE : E.Ok P) (hX : XOk P G X) (fuel : Nat) : ∀ (c : Code) (s s' : AState) (e : Exit), chkAll H c = true → xcode X E G H fuel c s = some (e, s') → ∀ Q : Exit → AState → Prop, Q e s' → ACode P G c Q s
  | .skip, s, s', e, _, h, Q, hQ => by simp [xcode] at h; obtain ⟨rfl, rfl⟩ := h; exact acode_here wp_skip hQ
  | .region id ops draw, s, s', e, hc, h, Q, hQ => by
    simp only [xcode] at h
    split at h
    · rename_i s1 h1
      simp at h
      obtain ⟨rfl, rfl⟩ := h
      cases draw with
      | true =>
        simp only [if_true] at h1
        exact acode_draw hE hE.mixed (by simpa [chkAll] using hc) (xdraw_sound hX h1 hQ)
      | false =>
        simp only [Bool.false_eq_true, if_false] at h1
        exact acode_region hE (xops_sound hX h1 hQ)
    · simp at h
  | .seq x y, s, s', e, hc, h, Q, hQ => by
    simp only [chkAll, Bool.and_eq_true] at hc
    simp only [xcode] at h
    refine acode_seq ?_
    cases hx : xcode X E G H fuel x s with
    | none => rw [hx] at h; simp at h
    | some r =>
      obtain ⟨e1, s1⟩ := r
      rw [hx] at h
      refine xcode_sound hE hX fuel x s s1 e1 hc.1 hx _ ?_
      cases e1 with
      | normal => exact xcode_sound hE hX fuel y s1 s' e hc.2 h Q hQ
      | _ => simp at h; obtain ⟨rfl, rfl⟩ := h; exact hQ
  | .cond c x y, s, s', e, hc, h, Q, hQ => by
    simp only [chkAll, Bool.and_eq_true] at hc
    intro w R N act bsT bsL bsH bsF hr D hd
    simp only [xcode] at h
    split at h
    · rename_i b hb
      obtain ⟨bs, he⟩ := eval_raw hr.tmps hr.glob c
      rw [hb] at he
      obtain ⟨_, he, _⟩ := repV_flat_inv he
      refine wp_cond he ?_
      cases b with
      | true => simp only [if_true] at h ⊢; exact xcode_sound hE hX fuel x s s' e hc.1 h Q hQ w R N act bsT bsL bsH bsF hr hd
      | false => simp only [Bool.false_eq_true, if_false] at h ⊢; exact xcode_sound hE hX fuel y s s' e hc.2 h Q hQ w R N act bsT bsL bsH bsF hr hd
    · simp at h
  | .block id c, s, s', e, hc, h, Q, hQ => by
    simp only [chkAll] at hc
    simp only [xcode] at h
    cases hx : xcode X E G H fuel c s with
    | none => rw [hx] at h; simp at h
    | some r =>
      obtain ⟨e1, s1⟩ := r
      rw [hx] at h
      intro w R N act bsT bsL bsH bsF hr D hd
      apply wp_block
      refine wp_mono (xcode_sound hE hX fuel c s s1 e1 hc hx (fun e' s'' => e' = e1 ∧ s'' = s1) ⟨rfl, rfl⟩ w R N act bsT bsL bsH bsF hr hd) ?_
      rintro e2 a w' ⟨s2, R', N', bsT', bsL', bsH', ⟨rfl, rfl⟩, rest⟩
      cases e2 with
      | exit i =>
        simp only [Exit.inBlock]
        simp only [Nat.beq_eq] at h
        by_cases hi : i = id
        · rw [if_pos hi]
          rw [if_pos hi] at h
          simp at h; obtain ⟨rfl, rfl⟩ := h
          exact ⟨s2, R', N', bsT', bsL', bsH', hQ, rest⟩
        · rw [if_neg hi]
          rw [if_neg hi] at h
          simp at h; obtain ⟨rfl, rfl⟩ := h
          exact ⟨s2, R', N', bsT', bsL', bsH', hQ, rest⟩
      | _ => simp at h; obtain ⟨rfl, rfl⟩ := h; exact ⟨s2, R', N', bsT', bsL', bsH', hQ, rest⟩
  | .exit id, s, s', e, _, h, Q, hQ => by simp [xcode] at h; obtain ⟨rfl, rfl⟩ := h; exact acode_here wp_exit hQ
  | .ret, s, s', e, _, h, Q, hQ => by simp [xcode] at h; obtain ⟨rfl, rfl⟩ := h; exact acode_here wp_ret hQ
  | .loop c, s, s', e, hc, h, Q, hQ => by
    simp only [chkAll] at hc
    simp only [xcode] at h
    exact xloop_sound (fun s e s' hb Q hQ => xcode_sound hE hX fuel c s s' e hc hb Q hQ) h hQ
  | .rangeFunc _ _ _ _, _, _, _, _, h, _, _ => by simp [xcode] at h
  | .scope _, _, _, _, _, h, _, _ => by simp [xcode] at h
  | .label _, _, _, _, _, h, _, _ => by simp [xcode] at h
  | .goto _, _, _, _, _, h, _, _ => by simp [xcode] at h
  | .refuse _, _, _, _, _, h, _, _ => by simp [xcode] at h

theorem xret_sound {rs : List ResultVar} {s : AState} {r : XRes} (h : xret E rs s = some r) : aret E rs (XQ r) s := by
  unfold xret at h
  unfold aret
  split at h
  · simp at h
  · rename_i vs hvs
    rw [hvs]
    dsimp only
    split at h
    · rename_i hn
      rw [if_pos hn]
      simp at h; subst h
      exact ⟨rfl, rfl, rfl⟩
    · rename_i hn
      rw [if_neg hn]
      split at h
      rename_i s' vs' he
      rw [he]
      dsimp only
      split at h
      · rename_i hn2
        rw [if_pos hn2]
        simp at h; subst h
        exact ⟨rfl, rfl, rfl⟩
      · simp at h

/-- The table of functions is the program's. -/
def FOk (P : Program) (moves caps : FuncId → Bool) (F : FuncId → Option XFn) : Prop :=
  ∀ f x, F f = some x → ∃ fn : Func, P.funcs[f]? = some fn ∧ fn.body = some x.code ∧ fn.ntmps = x.ntmps ∧ fn.results.toList = x.results ∧ chkAll ⟨moves, x.ord, caps, false⟩ x.code = true

theorem xcall_sound {moves caps : FuncId → Bool} {F : FuncId → Option XFn} (hE : E.Ok P) (hF : FOk P moves caps F) (fuel : Nat) : ∀ n, XOk P G (xcall E G moves caps F fuel n)
  | 0 => by intro f args heap next r h; simp [xcall] at h
  | n + 1 => by
    intro f args heap next r h
    simp only [xcall] at h
    split at h
    · simp at h
    · rename_i x hx
      obtain ⟨fn, h1, h2, h3, h4, h5⟩ := hF f x hx
      intro w R N cargs bsA bsH bsF ha hh hnd hnx hg hbF
      have key : ∀ e s, xcode (xcall E G moves caps F fuel n) E G ⟨moves, x.ord, caps, rowsOf caps f⟩ fuel x.code (enter x.ntmps args heap next) = some (e, s) → e = .ret ∨ e = .normal → xret E x.results s = some r → ACalls P G f args heap next (XQ r) := by
        intro e s hx he hr
        refine acalls_of_acode hE h1 h2 ?_
        intro _ _
        rw [h3, h4]
        refine xcode_sound (H := ⟨moves, x.ord, caps, rowsOf caps f⟩) hE (xcall_sound hE hF fuel n) fuel x.code _ _ _ (by rw [chkAll_rows]; exact h5) hx _ ?_
        have := xret_sound hr
        rcases he with rfl | rfl <;> exact this
      split at h
      · rename_i s hs
        exact key _ _ hs (.inl rfl) h w R N cargs bsA bsH bsF ha hh hnd hnx hg hbF
      · rename_i s hs
        exact key _ _ hs (.inr rfl) h w R N cargs bsA bsH bsF ha hh hnd hnx hg hbF
      · simp at h
end

/-! ### Tables of functions -/
def XFn.of (fn : Func) (ord : Nat → RHint) (live : Nat → Nat) : XFn := ⟨match fn.body with | some c => c | none => .skip, fn.ntmps, fn.results.toList, ord, live⟩

inductive FTr where
  | nil
  | node (l : FTr) (k : Nat) (fn : Func) (ord : Nat → RHint) (live : Nat → Nat) (r : FTr)

def FTr.find : FTr → Nat → Option XFn
  | .nil, _ => none
  | .node l k fn ord live r, t => match Nat.blt t k with
    | true => l.find t
    | false => (match Nat.blt k t with | true => r.find t | false => some (XFn.of fn ord live))

def bodyOk (moves caps : FuncId → Bool) (fn : Func) (ord : Nat → RHint) : Bool :=
  match fn.body with
  | some c => chkAll ⟨moves, ord, caps, false⟩ c
  | none => false

def fnOkX (P : Program) (moves caps : FuncId → Bool) (k : Nat) (fn : Func) (ord : Nat → RHint) : Prop := P.funcs[k]? = some fn ∧ bodyOk moves caps fn ord = true

theorem fnOkX_mk {P : Program} {moves caps : FuncId → Bool} {k : Nat} {fn : Func} {ord : Nat → RHint} (h1 : P.funcs[k]? = some fn) (h2 : bodyOk moves caps fn ord = true) : fnOkX P moves caps k fn ord := ⟨h1, h2⟩

def FTr.All (P : Program) (moves caps : FuncId → Bool) : FTr → Prop
  | .nil => True
  | .node l k fn ord _ r => l.All P moves caps ∧ fnOkX P moves caps k fn ord ∧ r.All P moves caps

theorem FTr.all_nil {P : Program} {moves caps : FuncId → Bool} : FTr.All P moves caps .nil := trivial
theorem FTr.all_node {P : Program} {moves caps : FuncId → Bool} {l r : FTr} {k : Nat} {fn : Func} {ord : Nat → RHint} {live : Nat → Nat} (h1 : l.All P moves caps) (h2 : fnOkX P moves caps k fn ord) (h3 : r.All P moves caps) : FTr.All P moves caps (.node l k fn ord live r) := ⟨h1, h2, h3⟩

theorem FTr.ok {P : Program} {moves caps : FuncId → Bool} : ∀ {t : FTr}, t.All P moves caps → FOk P moves caps t.find
  | .nil, _ => by intro f x h; simp [FTr.find] at h
  | .node l k fn ord live r, ⟨h1, h2, h3⟩ => by
    intro f x h
    simp only [FTr.find] at h
    cases h1' : Nat.blt f k with
    | true => rw [h1'] at h; exact FTr.ok h1 f x h
    | false =>
      rw [h1'] at h
      cases h2' : Nat.blt k f with
      | true => rw [h2'] at h; exact FTr.ok h3 f x h
      | false =>
        rw [h2'] at h
        have a : ¬ @LT.lt Nat _ f k := fun h => by rw [← Nat.blt_eq, h1'] at h; simp at h
        have b : ¬ @LT.lt Nat _ k f := fun h => by rw [← Nat.blt_eq, h2'] at h; simp at h
        have hk : @Eq Nat f k := by omega
        subst hk
        simp at h
        subst h
        obtain ⟨g1, g2⟩ := h2
        refine ⟨fn, g1, ?_, rfl, rfl, ?_⟩
        · unfold bodyOk at g2
          simp only [XFn.of]
          cases hb : fn.body with
          | none => rw [hb] at g2; simp at g2
          | some c => rfl
        · unfold bodyOk at g2
          simp only [XFn.of]
          cases hb : fn.body with
          | none => rw [hb] at g2; simp at g2
          | some c => rw [hb] at g2; exact g2
end Go.Tp
