/- The generic layer: code run to its end on a frame's state, by reckoning. -/
import Derived.Test.YtohkjddpblocoaaGreatDoorTpRun
namespace Go.Tp

/-! ### Equal values and objects -/
def eqV : Value → Value → Bool
  | .int k n, .int k' n' => decide (k = k') && eqZ n n'
  | .string s, .string s' => eqY s.data.toList s'.data.toList
  | .bool b, .bool b' => (match b, b' with | true, true => true | false, false => true | _, _ => false)
  | .pointer none, .pointer none => true
  | .map none, .map none => true
  | .nilFunc, .nilFunc => true
  | .nilIface, .nilIface => true
  | .slice none 0 0, .slice none 0 0 => true
  | _, _ => false
where
  eqZ : Int → Int → Bool
    | .ofNat a, .ofNat b => Nat.beq a b
    | .negSucc a, .negSucc b => Nat.beq a b
    | _, _ => false
  eqY : List UInt8 → List UInt8 → Bool
    | [], [] => true
    | a :: l, b :: r => (match Nat.beq a.toNat b.toNat with | true => eqY l r | false => false)
    | _, _ => false

theorem eqZ_spec {a b : Int} (h : eqV.eqZ a b = true) : a = b := by
  unfold eqV.eqZ at h
  split at h
  · rw [Nat.eq_of_beq_eq_true h]
  · rw [Nat.eq_of_beq_eq_true h]
  · simp at h
theorem eqY_spec : ∀ {a b : List UInt8}, eqV.eqY a b = true → a = b
  | [], [], _ => rfl
  | [], _ :: _, h => by simp [eqV.eqY] at h
  | _ :: _, [], h => by simp [eqV.eqY] at h
  | a :: l, b :: r, h => by
    unfold eqV.eqY at h
    split at h
    · rename_i hab
      rw [UInt8.toNat_inj.1 (Nat.eq_of_beq_eq_true hab), eqY_spec h]
    · simp at h
theorem eqV_spec {a b : Value} (h : eqV a b = true) : a = b := by
  unfold eqV at h
  split at h
  · simp only [Bool.and_eq_true, decide_eq_true_eq] at h
    rw [h.1, eqZ_spec h.2]
  · rename_i s s'
    obtain ⟨⟨l⟩⟩ := s
    obtain ⟨⟨l'⟩⟩ := s'
    have := eqY_spec h
    simp at this
    rw [this]
  · split at h <;> simp at h ⊢
  all_goals first | rfl | simp at h

mutual
def eqD : Dat → Dat → Bool
  | .flat v, .flat u => eqV v u
  | .slice es, .slice fs => eqDs es fs
  | .agg es, .agg fs => eqDs es fs
  | _, _ => false
def eqDs : List Dat → List Dat → Bool
  | [], [] => true
  | a :: l, b :: r => (match eqD a b with | true => eqDs l r | false => false)
  | _, _ => false
end
mutual
theorem eqD_spec : ∀ {a b : Dat}, eqD a b = true → a = b
  | .flat v, .flat u, h => by simp only [eqD] at h; rw [eqV_spec h]
  | .slice es, .slice fs, h => by simp only [eqD] at h; rw [eqDs_spec h]
  | .agg es, .agg fs, h => by simp only [eqD] at h; rw [eqDs_spec h]
  | .flat _, .slice _, h => by simp [eqD] at h
  | .flat _, .agg _, h => by simp [eqD] at h
  | .slice _, .flat _, h => by simp [eqD] at h
  | .slice _, .agg _, h => by simp [eqD] at h
  | .agg _, .flat _, h => by simp [eqD] at h
  | .agg _, .slice _, h => by simp [eqD] at h
theorem eqDs_spec : ∀ {a b : List Dat}, eqDs a b = true → a = b
  | [], [], _ => rfl
  | [], _ :: _, h => by simp [eqDs] at h
  | _ :: _, [], h => by simp [eqDs] at h
  | a :: l, b :: r, h => by
    simp only [eqDs] at h
    split at h
    · rename_i hab
      rw [eqD_spec hab, eqDs_spec h]
    · simp at h
end

def eqN : Name → Name → Bool
  | .loc a, .loc b => Nat.beq a b
  | .out a, .out b => Nat.beq a b
  | _, _ => false
theorem eqN_spec {a b : Name} (h : eqN a b = true) : a = b := by
  unfold eqN at h
  split at h
  · rw [Nat.eq_of_beq_eq_true h]
  · rw [Nat.eq_of_beq_eq_true h]
  · simp at h
def eqFn : Fn → Fn → Bool
  | .func a, .func b => Nat.beq a b
  | _, _ => false
theorem eqFn_spec {a b : Fn} (h : eqFn a b = true) : a = b := by
  unfold eqFn at h
  split at h
  · rw [Nat.eq_of_beq_eq_true h]
  · simp at h

mutual
def eqA : AVal → AVal → Bool
  | .dat a, .dat b => eqD a b
  | .own a, .own b => eqDs a b
  | .ref a, .ref b => eqDs a b
  | .ptr n i, .ptr m j => eqN n m && Nat.beq i j
  | .map n, .map m => eqN n m
  | .win n a b c, .win n' a' b' c' => eqN n n' && Nat.beq a a' && Nat.beq b b' && Nat.beq c c'
  | .fn f a b, .fn f' a' b' => eqFn f f' && eqAs a a' && eqAs b b'
  | .agg a, .agg b => eqAs a b
  | .tup a, .tup b => eqAs a b
  | .undef, .undef => true
  | _, _ => false
def eqAs : List AVal → List AVal → Bool
  | [], [] => true
  | a :: l, b :: r => (match eqA a b with | true => eqAs l r | false => false)
  | _, _ => false
end
mutual
theorem eqA_spec : ∀ {a b : AVal}, eqA a b = true → a = b
  | .dat a, b, h => by cases b <;> simp only [eqA, Bool.false_eq_true] at h; rw [eqD_spec h]
  | .own a, b, h => by cases b <;> simp only [eqA, Bool.false_eq_true] at h; rw [eqDs_spec h]
  | .ref a, b, h => by cases b <;> simp only [eqA, Bool.false_eq_true] at h; rw [eqDs_spec h]
  | .ptr n i, b, h => by cases b <;> simp only [eqA, Bool.false_eq_true, Bool.and_eq_true] at h; rw [eqN_spec h.1, Nat.eq_of_beq_eq_true h.2]
  | .map n, b, h => by cases b <;> simp only [eqA, Bool.false_eq_true] at h; rw [eqN_spec h]
  | .win n x y z, b, h => by cases b <;> simp only [eqA, Bool.false_eq_true, Bool.and_eq_true] at h; rw [eqN_spec h.1.1.1, Nat.eq_of_beq_eq_true h.1.1.2, Nat.eq_of_beq_eq_true h.1.2, Nat.eq_of_beq_eq_true h.2]
  | .fn f x y, b, h => by cases b <;> simp only [eqA, Bool.false_eq_true, Bool.and_eq_true] at h; rw [eqFn_spec h.1.1, eqAs_spec h.1.2, eqAs_spec h.2]
  | .agg a, b, h => by cases b <;> simp only [eqA, Bool.false_eq_true] at h; rw [eqAs_spec h]
  | .tup a, b, h => by cases b <;> simp only [eqA, Bool.false_eq_true] at h; rw [eqAs_spec h]
  | .undef, b, h => by cases b <;> simp only [eqA, Bool.false_eq_true] at h; rfl
theorem eqAs_spec : ∀ {a b : List AVal}, eqAs a b = true → a = b
  | [], [], _ => rfl
  | [], _ :: _, h => by simp [eqAs] at h
  | _ :: _, [], h => by simp [eqAs] at h
  | a :: l, b :: r, h => by
    simp only [eqAs] at h
    split at h
    · rename_i hab
      rw [eqA_spec hab, eqAs_spec h]
    · simp at h
end

def eqMs : List (Value × Dat) → List (Value × Dat) → Bool
  | [], [] => true
  | (k, d) :: l, (k', d') :: r => (match eqV k k' && eqD d d' with | true => eqMs l r | false => false)
  | _, _ => false
theorem eqMs_spec : ∀ {a b : List (Value × Dat)}, eqMs a b = true → a = b
  | [], [], _ => rfl
  | [], _ :: _, h => by simp [eqMs] at h
  | _ :: _, [], h => by simp [eqMs] at h
  | (k, d) :: l, (k', d') :: r, h => by
    simp only [eqMs] at h
    split at h
    · rename_i hab
      simp only [Bool.and_eq_true] at hab
      rw [eqV_spec hab.1, eqD_spec hab.2, eqMs_spec h]
    · simp at h
def eqO : AObj → AObj → Bool
  | .cells a, .cells b => eqAs a b
  | .map a, .map b => eqMs a b
  | _, _ => false
theorem eqO_spec {a b : AObj} (h : eqO a b = true) : a = b := by
  unfold eqO at h
  split at h
  · rw [eqAs_spec h]
  · rw [eqMs_spec h]
  · simp at h

theorem eqN_self (n : Name) : eqN n n = true := by cases n <;> simp [eqN]
def findO (n : Name) : List (Name × AObj) → Option AObj
  | [] => none
  | (m, o) :: l => match eqN m n with | true => some o | false => findO n l
theorem findO_spec {n : Name} : ∀ {l : List (Name × AObj)} {o : AObj}, findO n l = some o → aget n l = some o
  | [], o, h => by simp [findO] at h
  | (m, p) :: l, o, h => by
    simp only [findO] at h
    simp only [aget]
    split at h
    · rename_i hm
      rw [if_pos (eqN_spec hm)]
      exact h
    · rename_i hm
      rw [if_neg (fun e => by rw [e, eqN_self] at hm; simp at hm)]
      exact findO_spec h

/-- All objects of the one heap lie in the other. -/
def staysB : List (Name × AObj) → List (Name × AObj) → Bool
  | [], _ => true
  | (n, o) :: l, h => (match findO n h with
    | some p => (match eqO o p with | true => staysB l h | false => false)
    | none => false)
theorem staysB_spec : ∀ {a b : List (Name × AObj)}, staysB a b = true → Stays a b
  | [], _, _ => fun n ob h => by simp [aget] at h
  | (n, o) :: l, b, h => by
    simp only [staysB] at h
    split at h
    · rename_i p hp
      split at h
      · rename_i hab
        obtain rfl := eqO_spec hab
        intro k ob hk
        simp only [aget] at hk
        split at hk
        · rename_i hkn
          simp only [Option.some.injEq] at hk
          subst hk
          subst hkn
          exact findO_spec hp
        · exact staysB_spec h k ob hk
      · simp at h
    · simp at h


structure XRes where
  val : AVal
  heap : Heap
  next : Nat

abbrev XCalls := FuncId → List AVal → Heap → Nat → Option XRes

/-- A function's code, slots, results, and the orders of its regions. -/
structure XFn where
  code : Code
  ntmps : Nat
  results : List ResultVar
  ord : Nat → RHint
  /-- the slots that are read behind a region, as bits -/
  live : Nat → Nat

section
variable (X : XCalls) (E : TEnv) (G : Globs) (H : Hints)

def xone (all : List Oper) (o : Oper) (s : AState) : Option AState :=
  match wantedA all s o.guard with
  | none => none
  | some b =>
    if b = true then
      (match isCall o.op with
       | some c => (match acallee E G H c s with
         | some (f, args, s2) => (match X f args s2.heap s2.next with
           | some r => some (({ s2 with heap := r.heap, next := r.next } : AState).put o.dst r.val)
           | none => none)
         | none => none)
       | none => astep E G (readOnly H.moves all o) (takeR H all o) o s)
    else some (s.put o.dst (.tup []))

def xops (all : List Oper) : List Oper → AState → Option AState
  | [], s => some s
  | o :: rest, s => (match xone X E G H all o s with | some s' => xops all rest s' | none => none)

def xopL (fh : Bool) (tk : List Nat) (all : List Oper) (o : Oper) (s : AState) : Option AState :=
  match wantedA all s o.guard with
  | none => none
  | some b =>
    if b = true then
      (match isCall o.op with
       | some c => (match acalleeD E G H c s with
         | some (f, args, s2) => (match isPure H o with
           | true => (match X f args [] s2.next with
             | some ⟨v, [], n⟩ => some (({ s2 with next := n } : AState).put o.dst v)
             | _ => none)
           | false => (match X f args s2.heap s2.next with
             | some r => (match !isRead H o || staysB s2.heap r.heap with
               | true => some (({ s2 with heap := r.heap, next := r.next } : AState).put o.dst r.val)
               | false => none)
             | none => none))
         | none => none)
       | none => (match appSlot o.op with
         | some t => (match showTk fh all (tkFor all t (tkNil tk t s)) s with
           | some s1 => astep E G false false o s1
           | none => none)
         | none => none))
    else some (s.put o.dst (.tup []))

def xord (tk : List Nat) (fh : Bool) (fq : Nat → Bool) (all : List Oper) : List (Nat × Bool) → AState → Option AState
  | [], s => some s
  | (i, lone) :: r, s =>
    match all[i]? with
    | none => none
    | some o =>
      if lone = true then (match xopL X E G H fh tk all o s with | some s' => xord tk fh fq all r s' | none => none)
      else (match stepQ E G (fh || fq i) all o s with
        | some a => xord tk fh fq all r (s.put o.dst a)
        | none => none)

def xdraw (all : List Oper) (h : RHint) (s : AState) : Option AState :=
  match xord X E G H h.tk (quietHeap H all h.pre) (quietAt H all h.pre) all h.pre s with
  | some s1 => (match showMk E all h.nw s1 with
    | some s2 => xops X E G H all (pickOps all h.tail) s2
    | none => none)
  | none => none

def xloop (body : AState → Option (Exit × AState)) : Nat → AState → Option (Exit × AState)
  | 0, _ => none
  | n + 1, s => match body s with
    | some (.normal, s') => xloop body n s'
    | r => r

def xcode (fuel : Nat) : Code → AState → Option (Exit × AState)
  | .skip, s => some (.normal, s)
  | .region id ops draw, s =>
    (match (if draw = true then xdraw X E G H ops.toList (H.ord id) s else xops X E G (H.at id) ops.toList ops.toList s) with
     | some s' => some (.normal, s')
     | none => none)
  | .seq x y, s => (match xcode fuel x s with
    | some (.normal, s') => xcode fuel y s'
    | r => r)
  | .cond c x y, s => (match aeval G s c with
    | .dat (.flat (.bool b)) => if b = true then xcode fuel x s else xcode fuel y s
    | _ => none)
  | .block id c, s => (match xcode fuel c s with
    | some (.exit i, s') => if Nat.beq i id = true then some (.normal, s') else some (.exit i, s')
    | r => r)
  | .exit id, s => some (.exit id, s)
  | .ret, s => some (.ret, s)
  | .loop c, s => xloop (xcode fuel c) fuel s
  | _, _ => none

def xret (rs : List ResultVar) (s : AState) : Option XRes :=
  match retVals E s rs with
  | none => none
  | some vs =>
    if noLocL (tidyL vs) = true then some ⟨pack (tidyL vs), s.heap, s.next⟩
    else match expAll (repeatL s.locs.length (locNames s.locs)) s (tidyL vs) with
      | (s', vs') => if noLocL vs' = true then some ⟨pack vs', s'.heap, s'.next⟩ else none
end

/-- A call, run. -/
def xcall (E : TEnv) (G : Globs) (moves caps : FuncId → Bool) (F : FuncId → Option XFn) (fuel : Nat) : Nat → XCalls
  | 0 => fun _ _ _ _ => none
  | n + 1 => fun f args heap next =>
    match F f with
    | none => none
    | some x => (match xcode (xcall E G moves caps F fuel n) E G ⟨moves, x.ord, caps, rowsOf caps f⟩ fuel x.code (enter x.ntmps args heap next) with
      | some (.ret, s) => xret E x.results s
      | some (.normal, s) => xret E x.results s
      | _ => none)

/-! ### It is what the program does -/
def XQ (r : XRes) : AVal → Heap → Nat → Prop := fun v h n => v = r.val ∧ h = r.heap ∧ n = r.next

section
variable {P : Program} {X : XCalls} {E : TEnv} {G : Globs} {H : Hints}

def XOk (P : Program) (G : Globs) (X : XCalls) : Prop := ∀ f args heap next r, X f args heap next = some r → ACalls P G f args heap next (XQ r)

theorem xone_sound (hX : XOk P G X) {all : List Oper} {o : Oper} {s s' : AState} (h : xone X E G H all o s = some s') {K : AState → Prop} (hK : K s') : aone (ACalls P G) E G H all o K s := by
  unfold xone at h
  unfold aone
  split at h
  · simp at h
  · rename_i b hb
    rw [hb]
    dsimp only
    split at h
    · rename_i hb1
      rw [if_pos hb1]
      split at h
      · rename_i c hc
        rw [hc]
        dsimp only
        split at h
        · rename_i f args s2 hcal
          rw [hcal]
          dsimp only
          split at h
          · rename_i r hr
            simp at h
            refine (hX _ _ _ _ _ hr).mono ?_
            rintro v hh n ⟨rfl, rfl, rfl⟩ _ _
            rw [h]; exact hK
          · simp at h
        · simp at h
      · rename_i hc
        rw [hc]
        dsimp only
        rw [h]
        exact hK
    · rename_i hb1
      rw [if_neg hb1]
      simp at h
      rw [h]; exact hK

theorem xops_sound (hX : XOk P G X) {all : List Oper} {K : AState → Prop} : ∀ {ops : List Oper} {s s' : AState}, xops X E G H all ops s = some s' → K s' → aops (ACalls P G) E G H all K ops s
  | [], s, s', h, hK => by simp [xops] at h; subst h; exact hK
  | o :: rest, s, s', h, hK => by
    simp only [xops] at h
    simp only [aops, askK_eq]
    split at h
    · rename_i s1 h1
      exact xone_sound hX h1 (xops_sound hX h hK)
    · simp at h

theorem xopL_sound (hX : XOk P G X) {fh : Bool} {tk : List Nat} {all : List Oper} {o : Oper} {s s' : AState} (h : xopL X E G H fh tk all o s = some s') {K : AState → Prop} (hK : K s') : opL (ACalls P G) E G H fh tk all o K s := by
  unfold xopL at h
  unfold opL
  split at h
  · simp at h
  · rename_i b hb
    rw [hb]
    dsimp only
    split at h
    · rename_i hb1
      rw [if_pos hb1]
      split at h
      · rename_i c hc
        rw [hc]
        dsimp only
        split at h
        · rename_i f args s2 hcal
          rw [hcal]
          dsimp only
          cases hpu : isPure H o with
          | true =>
            rw [hpu] at h
            dsimp only at h ⊢
            split at h
            · rename_i v n hr
              simp at h
              refine (hX _ _ _ _ _ hr).mono ?_
              rintro v hh n ⟨rfl, rfl, rfl⟩ _ _
              exact ⟨rfl, by rw [h]; exact hK⟩
            · simp at h
          | false =>
            rw [hpu] at h
            dsimp only at h ⊢
            split at h
            · rename_i r hr
              split at h
              · rename_i hst
                simp at h
                refine (hX _ _ _ _ _ hr).mono ?_
                rintro v hh n ⟨rfl, rfl, rfl⟩ _ _
                refine ⟨fun hrd => ?_, by rw [h]; exact hK⟩
                rw [hrd] at hst
                exact staysB_spec (by simpa using hst)
              · simp at h
            · simp at h
        · simp at h
      · rename_i hc
        rw [hc]
        dsimp only
        split at h
        · rename_i t ht
          rw [ht]
          dsimp only
          split at h
          · rename_i s1 hs1
            rw [hs1]
            dsimp only
            rw [h]
            exact hK
          · simp at h
        · simp at h
    · rename_i hb1
      rw [if_neg hb1]
      simp at h
      rw [h]; exact hK

theorem xord_sound (hX : XOk P G X) {tk : List Nat} {fh : Bool} {fq : Nat → Bool} {all : List Oper} {T : AState → Prop} : ∀ {l : List (Nat × Bool)} {s s' : AState}, xord X E G H tk fh fq all l s = some s' → T s' → aordP (ACalls P G) E G H tk fh fq all T l s
  | [], s, s', h, hK => by simp [xord] at h; subst h; exact hK
  | (i, lone) :: rest, s, s', h, hK => by
    simp only [xord] at h
    simp only [aordP]
    split at h
    · simp at h
    · rename_i o ho
      rw [ho]
      dsimp only
      simp only [askK_eq]
      split at h
      · rename_i hl
        rw [if_pos hl]
        split at h
        · rename_i s1 h1
          exact xopL_sound hX h1 (xord_sound hX h hK)
        · simp at h
      · rename_i hl
        rw [if_neg hl]
        split at h
        · rename_i a ha
          rw [ha]
          exact xord_sound hX h hK
        · simp at h

theorem xdraw_sound (hX : XOk P G X) {all : List Oper} {h : RHint} {s s' : AState} (hh : xdraw X E G H all h s = some s') {Q : AState → Prop} (hQ : Q s') : adraw (ACalls P G) E G H all h Q s := by
  unfold xdraw at hh
  unfold adraw
  split at hh
  · rename_i s1 h1
    refine xord_sound hX h1 ?_
    split at hh
    · rename_i s2 h2
      rw [h2]
      exact xops_sound hX hh hQ
    · simp at hh
  · simp at hh

theorem xloop_sound {c : Code} {body : AState → Option (Exit × AState)} (hb : ∀ s e s', body s = some (e, s') → ∀ Q : Exit → AState → Prop, Q e s' → ACode P G c Q s) {n : Nat} {s s' : AState} {e : Exit}
    (h : xloop body n s = some (e, s')) {Q : Exit → AState → Prop} (hQ : Q e s') : ACode P G (.loop c) Q s := by
  intro w R N act bsT bsL bsH bsF hr hd
  refine wp_loop_ghost (I := fun n a w' => ∃ s1 R' N' bsT' bsL' bsH', xloop body n s1 = some (e, s') ∧ RelB G w' R' N' a.tmps.toList s1 undef .undef [] bsT' bsL' bsH' bsF ∧ a.defers = [] ∧ Keep w R w' R' bsF ∧ (∀ o b, N (.out o) = some b → N' (.out o) = some b)) (n0 := n) ?_ ?_
  · exact ⟨s, R, N, bsT, bsL, bsH, h, hr, hd, keep_refl _, fun _ _ h => h⟩
  · rintro n a w' ⟨s1, R', N', bsT', bsL', bsH', hx, hr', hd', hk, hN⟩
    cases n with
    | zero => simp [xloop] at hx
    | succ n =>
      simp only [xloop] at hx
      have key : ∀ e1 s2, body s1 = some (e1, s2) → (e1 = .normal → xloop body n s2 = some (e, s')) → (e1 ≠ .normal → e1 = e ∧ s2 = s') → c.wp P (Exit.then (fun a' w' => ∃ n', n' < n + 1 ∧ ∃ s1 R' N' bsT' bsL' bsH', xloop body n' s1 = some (e, s') ∧ RelB G w' R' N' a'.tmps.toList s1 undef .undef [] bsT' bsL' bsH' bsF ∧ a'.defers = [] ∧ Keep w R w' R' bsF ∧ (∀ o b, N (.out o) = some b → N' (.out o) = some b)) (CPost G Q w R N bsF)) a w' := by
        intro e1 s2 hbody h1 h2
        refine wp_mono (hb s1 e1 s2 hbody (fun e' s'' => e' = e1 ∧ s'' = s2) ⟨rfl, rfl⟩ w' R' N' a bsT' bsL' bsH' bsF hr' hd') ?_
        rintro e3 a3 w3 ⟨s3, R3, N3, bsT3, bsL3, bsH3, ⟨rfl, rfl⟩, hr3, hd3, hk3, hN3⟩
        by_cases he : e3 = .normal
        · subst he
          exact ⟨n, Nat.lt_succ_self n, s3, R3, N3, bsT3, bsL3, bsH3, h1 rfl, hr3, hd3, hk.trans hk3, fun o b h => hN3 o b (hN o b h)⟩
        · obtain ⟨rfl, rfl⟩ := h2 he
          have : CPost G Q w R N bsF e3 a3 w3 := ⟨s3, R3, N3, bsT3, bsL3, bsH3, hQ, hr3, hd3, hk.trans hk3, fun o b h => hN3 o b (hN o b h)⟩
          cases e3 with
          | normal => exact (he rfl).elim
          | _ => exact this
      cases hbd : body s1 with
      | none => rw [hbd] at hx; simp at hx
      | some r =>
        obtain ⟨e1, s2⟩ := r
        rw [hbd] at hx
        cases e1 with
        | normal => exact key _ _ hbd (fun _ => hx) (fun h => (h rfl).elim)
        | _ => simp at hx; exact key _ _ hbd (fun h => by simp at h) (fun _ => hx)

theorem xcode_sound (hE : E.Ok P) (hX : XOk P G X) (fuel : Nat) : ∀ (c : Code) (s s' : AState) (e : Exit), chkAll H c = true → xcode X E G H fuel c s = some (e, s') → ∀ Q : Exit → AState → Prop, Q e s' → ACode P G c Q s
  | .skip, s, s', e, _, h, Q, hQ => by simp [xcode] at h; obtain ⟨rfl, rfl⟩ := h; exact acode_here wp_skip hQ
  | .region id ops draw, s, s', e, hc, h, Q, hQ => by
    simp only [xcode] at h
    split at h
    · rename_i s1 h1
      simp at h
      obtain ⟨rfl, rfl⟩ := h
      cases draw with
      | true =>
        simp only [if_true] at h1
        exact acode_draw hE hE.mixed (by simpa [chkAll] using hc) (xdraw_sound hX h1 hQ)
      | false =>
        simp only [Bool.false_eq_true, if_false] at h1
        exact acode_region hE (xops_sound hX h1 hQ)
    · simp at h
  | .seq x y, s, s', e, hc, h, Q, hQ => by
    simp only [chkAll, Bool.and_eq_true] at hc
    simp only [xcode] at h
    refine acode_seq ?_
    cases hx : xcode X E G H fuel x s with
    | none => rw [hx] at h; simp at h
    | some r =>
      obtain ⟨e1, s1⟩ := r
      rw [hx] at h
      refine xcode_sound hE hX fuel x s s1 e1 hc.1 hx _ ?_
      cases e1 with
      | normal => exact xcode_sound hE hX fuel y s1 s' e hc.2 h Q hQ
      | _ => simp at h; obtain ⟨rfl, rfl⟩ := h; exact hQ
  | .cond c x y, s, s', e, hc, h, Q, hQ => by
    simp only [chkAll, Bool.and_eq_true] at hc
    intro w R N act bsT bsL bsH bsF hr hd
    simp only [xcode] at h
    split at h
    · rename_i b hb
      obtain ⟨bs, he⟩ := eval_raw hr.tmps hr.glob c
      rw [hb] at he
      obtain ⟨_, he, _⟩ := repV_flat_inv he
      refine wp_cond he ?_
      cases b with
      | true => simp only [if_true] at h ⊢; exact xcode_sound hE hX fuel x s s' e hc.1 h Q hQ w R N act bsT bsL bsH bsF hr hd
      | false => simp only [Bool.false_eq_true, if_false] at h ⊢; exact xcode_sound hE hX fuel y s s' e hc.2 h Q hQ w R N act bsT bsL bsH bsF hr hd
    · simp at h
  | .block id c, s, s', e, hc, h, Q, hQ => by
    simp only [chkAll] at hc
    simp only [xcode] at h
    cases hx : xcode X E G H fuel c s with
    | none => rw [hx] at h; simp at h
    | some r =>
      obtain ⟨e1, s1⟩ := r
      rw [hx] at h
      intro w R N act bsT bsL bsH bsF hr hd
      apply wp_block
      refine wp_mono (xcode_sound hE hX fuel c s s1 e1 hc hx (fun e' s'' => e' = e1 ∧ s'' = s1) ⟨rfl, rfl⟩ w R N act bsT bsL bsH bsF hr hd) ?_
      rintro e2 a w' ⟨s2, R', N', bsT', bsL', bsH', ⟨rfl, rfl⟩, rest⟩
      cases e2 with
      | exit i =>
        simp only [Exit.inBlock]
        simp only [Nat.beq_eq] at h
        by_cases hi : i = id
        · rw [if_pos hi]
          rw [if_pos hi] at h
          simp at h; obtain ⟨rfl, rfl⟩ := h
          exact ⟨s2, R', N', bsT', bsL', bsH', hQ, rest⟩
        · rw [if_neg hi]
          rw [if_neg hi] at h
          simp at h; obtain ⟨rfl, rfl⟩ := h
          exact ⟨s2, R', N', bsT', bsL', bsH', hQ, rest⟩
      | _ => simp at h; obtain ⟨rfl, rfl⟩ := h; exact ⟨s2, R', N', bsT', bsL', bsH', hQ, rest⟩
  | .exit id, s, s', e, _, h, Q, hQ => by simp [xcode] at h; obtain ⟨rfl, rfl⟩ := h; exact acode_here wp_exit hQ
  | .ret, s, s', e, _, h, Q, hQ => by simp [xcode] at h; obtain ⟨rfl, rfl⟩ := h; exact acode_here wp_ret hQ
  | .loop c, s, s', e, hc, h, Q, hQ => by
    simp only [chkAll] at hc
    simp only [xcode] at h
    exact xloop_sound (fun s e s' hb Q hQ => xcode_sound hE hX fuel c s s' e hc hb Q hQ) h hQ
  | .rangeFunc _ _ _ _, _, _, _, _, h, _, _ => by simp [xcode] at h
  | .scope _, _, _, _, _, h, _, _ => by simp [xcode] at h
  | .label _, _, _, _, _, h, _, _ => by simp [xcode] at h
  | .goto _, _, _, _, _, h, _, _ => by simp [xcode] at h
  | .refuse _, _, _, _, _, h, _, _ => by simp [xcode] at h

theorem xret_sound {rs : List ResultVar} {s : AState} {r : XRes} (h : xret E rs s = some r) : aret E rs (XQ r) s := by
  unfold xret at h
  unfold aret
  split at h
  · simp at h
  · rename_i vs hvs
    rw [hvs]
    dsimp only
    split at h
    · rename_i hn
      rw [if_pos hn]
      simp at h; subst h
      exact ⟨rfl, rfl, rfl⟩
    · rename_i hn
      rw [if_neg hn]
      split at h
      rename_i s' vs' he
      rw [he]
      dsimp only
      split at h
      · rename_i hn2
        rw [if_pos hn2]
        simp at h; subst h
        exact ⟨rfl, rfl, rfl⟩
      · simp at h

/-- The table of functions is the program's. -/
def FOk (P : Program) (moves caps : FuncId → Bool) (F : FuncId → Option XFn) : Prop :=
  ∀ f x, F f = some x → ∃ fn : Func, P.funcs[f]? = some fn ∧ fn.body = some x.code ∧ fn.ntmps = x.ntmps ∧ fn.results.toList = x.results ∧ chkAll ⟨moves, x.ord, caps, false⟩ x.code = true

theorem xcall_sound {moves caps : FuncId → Bool} {F : FuncId → Option XFn} (hE : E.Ok P) (hF : FOk P moves caps F) (fuel : Nat) : ∀ n, XOk P G (xcall E G moves caps F fuel n)
  | 0 => by intro f args heap next r h; simp [xcall] at h
  | n + 1 => by
    intro f args heap next r h
    simp only [xcall] at h
    split at h
    · simp at h
    · rename_i x hx
      obtain ⟨fn, h1, h2, h3, h4, h5⟩ := hF f x hx
      intro w R N cargs bsA bsH bsF ha hh hnd hnx hg hbF
      have key : ∀ e s, xcode (xcall E G moves caps F fuel n) E G ⟨moves, x.ord, caps, rowsOf caps f⟩ fuel x.code (enter x.ntmps args heap next) = some (e, s) → e = .ret ∨ e = .normal → xret E x.results s = some r → ACalls P G f args heap next (XQ r) := by
        intro e s hx he hr
        refine acalls_of_acode hE h1 h2 ?_
        intro _ _
        rw [h3, h4]
        refine xcode_sound (H := ⟨moves, x.ord, caps, rowsOf caps f⟩) hE (xcall_sound hE hF fuel n) fuel x.code _ _ _ (by rw [chkAll_rows]; exact h5) hx _ ?_
        have := xret_sound hr
        rcases he with rfl | rfl <;> exact this
      split at h
      · rename_i s hs
        exact key _ _ hs (.inl rfl) h w R N cargs bsA bsH bsF ha hh hnd hnx hg hbF
      · rename_i s hs
        exact key _ _ hs (.inr rfl) h w R N cargs bsA bsH bsF ha hh hnd hnx hg hbF
      · simp at h
end

/-! ### Tables of functions -/
def XFn.of (fn : Func) (ord : Nat → RHint) (live : Nat → Nat) : XFn := ⟨match fn.body with | some c => c | none => .skip, fn.ntmps, fn.results.toList, ord, live⟩

inductive FTr where
  | nil
  | node (l : FTr) (k : Nat) (fn : Func) (ord : Nat → RHint) (live : Nat → Nat) (r : FTr)

def FTr.find : FTr → Nat → Option XFn
  | .nil, _ => none
  | .node l k fn ord live r, t => match Nat.blt t k with
    | true => l.find t
    | false => (match Nat.blt k t with | true => r.find t | false => some (XFn.of fn ord live))

def bodyOk (moves caps : FuncId → Bool) (fn : Func) (ord : Nat → RHint) : Bool :=
  match fn.body with
  | some c => chkAll ⟨moves, ord, caps, false⟩ c
  | none => false

def fnOkX (P : Program) (moves caps : FuncId → Bool) (k : Nat) (fn : Func) (ord : Nat → RHint) : Prop := P.funcs[k]? = some fn ∧ bodyOk moves caps fn ord = true

theorem fnOkX_mk {P : Program} {moves caps : FuncId → Bool} {k : Nat} {fn : Func} {ord : Nat → RHint} (h1 : P.funcs[k]? = some fn) (h2 : bodyOk moves caps fn ord = true) : fnOkX P moves caps k fn ord := ⟨h1, h2⟩

def FTr.All (P : Program) (moves caps : FuncId → Bool) : FTr → Prop
  | .nil => True
  | .node l k fn ord _ r => l.All P moves caps ∧ fnOkX P moves caps k fn ord ∧ r.All P moves caps

theorem FTr.all_nil {P : Program} {moves caps : FuncId → Bool} : FTr.All P moves caps .nil := trivial
theorem FTr.all_node {P : Program} {moves caps : FuncId → Bool} {l r : FTr} {k : Nat} {fn : Func} {ord : Nat → RHint} {live : Nat → Nat} (h1 : l.All P moves caps) (h2 : fnOkX P moves caps k fn ord) (h3 : r.All P moves caps) : FTr.All P moves caps (.node l k fn ord live r) := ⟨h1, h2, h3⟩

theorem FTr.ok {P : Program} {moves caps : FuncId → Bool} : ∀ {t : FTr}, t.All P moves caps → FOk P moves caps t.find
  | .nil, _ => by intro f x h; simp [FTr.find] at h
  | .node l k fn ord live r, ⟨h1, h2, h3⟩ => by
    intro f x h
    simp only [FTr.find] at h
    cases h1' : Nat.blt f k with
    | true => rw [h1'] at h; exact FTr.ok h1 f x h
    | false =>
      rw [h1'] at h
      cases h2' : Nat.blt k f with
      | true => rw [h2'] at h; exact FTr.ok h3 f x h
      | false =>
        rw [h2'] at h
        have a : ¬ @LT.lt Nat _ f k := fun h => by rw [← Nat.blt_eq, h1'] at h; simp at h
        have b : ¬ @LT.lt Nat _ k f := fun h => by rw [← Nat.blt_eq, h2'] at h; simp at h
        have hk : @Eq Nat f k := by omega
        subst hk
        simp at h
        subst h
        obtain ⟨g1, g2⟩ := h2
        refine ⟨fn, g1, ?_, rfl, rfl, ?_⟩
        · unfold bodyOk at g2
          simp only [XFn.of]
          cases hb : fn.body with
          | none => rw [hb] at g2; simp at g2
          | some c => rfl
        · unfold bodyOk at g2
          simp only [XFn.of]
          cases hb : fn.body with
          | none => rw [hb] at g2; simp at g2
          | some c => rw [hb] at g2; exact g2
end Go.Tp
