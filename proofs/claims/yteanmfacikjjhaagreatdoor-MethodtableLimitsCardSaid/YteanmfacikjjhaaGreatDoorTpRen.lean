/- The generic layer: equal values; states that differ by the names of two objects. -/
import Derived.Test.YteanmfacikjjhaaGreatDoorTpWp
namespace Go.Tp

/-! ### Equal values and objects -/
def eqV : Value → Value → Bool
  | .int k n, .int k' n' => decide (k = k') && eqZ n n'
  | .string s, .string s' => eqY s.data.toList s'.data.toList
  | .bool b, .bool b' => (match b, b' with | true, true => true | false, false => true | _, _ => false)
  | .pointer none, .pointer none => true
  | .map none, .map none => true
  | .nilFunc, .nilFunc => true
  | .nilIface, .nilIface => true
  | .slice none 0 0, .slice none 0 0 => true
  | _, _ => false
where
  eqZ : Int → Int → Bool
    | .ofNat a, .ofNat b => Nat.beq a b
    | .negSucc a, .negSucc b => Nat.beq a b
    | _, _ => false
  eqY : List UInt8 → List UInt8 → Bool
    | [], [] => true
    | a :: l, b :: r => (match Nat.beq a.toNat b.toNat with | true => eqY l r | false => false)
    | _, _ => false

theorem eqZ_spec {a b : Int} (h : eqV.eqZ a b = true) : a = b := by
  unfold eqV.eqZ at h
  split at h
  · rw [Nat.eq_of_beq_eq_true h]
  · rw [Nat.eq_of_beq_eq_true h]
  · simp at h
theorem eqY_spec : ∀ {a b : List UInt8}, eqV.eqY a b = true → a = b
  | [], [], _ => rfl
  | [], _ :: _, h => by simp [eqV.eqY] at h
  | _ :: _, [], h => by simp [eqV.eqY] at h
  | a :: l, b :: r, h => by
    unfold eqV.eqY at h
    split at h
    · rename_i hab
      rw [UInt8.toNat_inj.1 (Nat.eq_of_beq_eq_true hab), eqY_spec h]
    · simp at h
theorem eqV_spec {a b : Value} (h : eqV a b = true) : a = b := by
  unfold eqV at h
  split at h
  · simp only [Bool.and_eq_true, decide_eq_true_eq] at h
    rw [h.1, eqZ_spec h.2]
  · rename_i s s'
    obtain ⟨⟨l⟩⟩ := s
    obtain ⟨⟨l'⟩⟩ := s'
    have := eqY_spec h
    simp at this
    rw [this]
  · split at h <;> simp at h ⊢
  all_goals first | rfl | simp at h

mutual
def eqD : Dat → Dat → Bool
  | .flat v, .flat u => eqV v u
  | .slice es, .slice fs => eqDs es fs
  | .agg es, .agg fs => eqDs es fs
  | _, _ => false
def eqDs : List Dat → List Dat → Bool
  | [], [] => true
  | a :: l, b :: r => (match eqD a b with | true => eqDs l r | false => false)
  | _, _ => false
end
mutual
theorem eqD_spec : ∀ {a b : Dat}, eqD a b = true → a = b
  | .flat v, .flat u, h => by simp only [eqD] at h; rw [eqV_spec h]
  | .slice es, .slice fs, h => by simp only [eqD] at h; rw [eqDs_spec h]
  | .agg es, .agg fs, h => by simp only [eqD] at h; rw [eqDs_spec h]
  | .flat _, .slice _, h => by simp [eqD] at h
  | .flat _, .agg _, h => by simp [eqD] at h
  | .slice _, .flat _, h => by simp [eqD] at h
  | .slice _, .agg _, h => by simp [eqD] at h
  | .agg _, .flat _, h => by simp [eqD] at h
  | .agg _, .slice _, h => by simp [eqD] at h
theorem eqDs_spec : ∀ {a b : List Dat}, eqDs a b = true → a = b
  | [], [], _ => rfl
  | [], _ :: _, h => by simp [eqDs] at h
  | _ :: _, [], h => by simp [eqDs] at h
  | a :: l, b :: r, h => by
    simp only [eqDs] at h
    split at h
    · rename_i hab
      rw [eqD_spec hab, eqDs_spec h]
    · simp at h
end

def eqN : Name → Name → Bool
  | .loc a, .loc b => Nat.beq a b
  | .out a, .out b => Nat.beq a b
  | _, _ => false
theorem eqN_spec {a b : Name} (h : eqN a b = true) : a = b := by
  unfold eqN at h
  split at h
  · rw [Nat.eq_of_beq_eq_true h]
  · rw [Nat.eq_of_beq_eq_true h]
  · simp at h
def eqFn : Fn → Fn → Bool
  | .func a, .func b => Nat.beq a b
  | _, _ => false
theorem eqFn_spec {a b : Fn} (h : eqFn a b = true) : a = b := by
  unfold eqFn at h
  split at h
  · rw [Nat.eq_of_beq_eq_true h]
  · simp at h

mutual
def eqA : AVal → AVal → Bool
  | .dat a, .dat b => eqD a b
  | .own a, .own b => eqDs a b
  | .ref a, .ref b => eqDs a b
  | .ptr n i, .ptr m j => eqN n m && Nat.beq i j
  | .map n, .map m => eqN n m
  | .win n a b c, .win n' a' b' c' => eqN n n' && Nat.beq a a' && Nat.beq b b' && Nat.beq c c'
  | .fn f a b, .fn f' a' b' => eqFn f f' && eqAs a a' && eqAs b b'
  | .agg a, .agg b => eqAs a b
  | .tup a, .tup b => eqAs a b
  | .undef, .undef => true
  | _, _ => false
def eqAs : List AVal → List AVal → Bool
  | [], [] => true
  | a :: l, b :: r => (match eqA a b with | true => eqAs l r | false => false)
  | _, _ => false
end
mutual
theorem eqA_spec : ∀ {a b : AVal}, eqA a b = true → a = b
  | .dat a, b, h => by cases b <;> simp only [eqA, Bool.false_eq_true] at h; rw [eqD_spec h]
  | .own a, b, h => by cases b <;> simp only [eqA, Bool.false_eq_true] at h; rw [eqDs_spec h]
  | .ref a, b, h => by cases b <;> simp only [eqA, Bool.false_eq_true] at h; rw [eqDs_spec h]
  | .ptr n i, b, h => by cases b <;> simp only [eqA, Bool.false_eq_true, Bool.and_eq_true] at h; rw [eqN_spec h.1, Nat.eq_of_beq_eq_true h.2]
  | .map n, b, h => by cases b <;> simp only [eqA, Bool.false_eq_true] at h; rw [eqN_spec h]
  | .win n x y z, b, h => by cases b <;> simp only [eqA, Bool.false_eq_true, Bool.and_eq_true] at h; rw [eqN_spec h.1.1.1, Nat.eq_of_beq_eq_true h.1.1.2, Nat.eq_of_beq_eq_true h.1.2, Nat.eq_of_beq_eq_true h.2]
  | .fn f x y, b, h => by cases b <;> simp only [eqA, Bool.false_eq_true, Bool.and_eq_true] at h; rw [eqFn_spec h.1.1, eqAs_spec h.1.2, eqAs_spec h.2]
  | .agg a, b, h => by cases b <;> simp only [eqA, Bool.false_eq_true] at h; rw [eqAs_spec h]
  | .tup a, b, h => by cases b <;> simp only [eqA, Bool.false_eq_true] at h; rw [eqAs_spec h]
  | .undef, b, h => by cases b <;> simp only [eqA, Bool.false_eq_true] at h; rfl
theorem eqAs_spec : ∀ {a b : List AVal}, eqAs a b = true → a = b
  | [], [], _ => rfl
  | [], _ :: _, h => by simp [eqAs] at h
  | _ :: _, [], h => by simp [eqAs] at h
  | a :: l, b :: r, h => by
    simp only [eqAs] at h
    split at h
    · rename_i hab
      rw [eqA_spec hab, eqAs_spec h]
    · simp at h
end

def eqMs : List (Value × Dat) → List (Value × Dat) → Bool
  | [], [] => true
  | (k, d) :: l, (k', d') :: r => (match eqV k k' && eqD d d' with | true => eqMs l r | false => false)
  | _, _ => false
theorem eqMs_spec : ∀ {a b : List (Value × Dat)}, eqMs a b = true → a = b
  | [], [], _ => rfl
  | [], _ :: _, h => by simp [eqMs] at h
  | _ :: _, [], h => by simp [eqMs] at h
  | (k, d) :: l, (k', d') :: r, h => by
    simp only [eqMs] at h
    split at h
    · rename_i hab
      simp only [Bool.and_eq_true] at hab
      rw [eqV_spec hab.1, eqD_spec hab.2, eqMs_spec h]
    · simp at h
def eqO : AObj → AObj → Bool
  | .cells a, .cells b => eqAs a b
  | .map a, .map b => eqMs a b
  | _, _ => false
theorem eqO_spec {a b : AObj} (h : eqO a b = true) : a = b := by
  unfold eqO at h
  split at h
  · rw [eqAs_spec h]
  · rw [eqMs_spec h]
  · simp at h

theorem eqN_self (n : Name) : eqN n n = true := by cases n <;> simp [eqN]
def findO (n : Name) : List (Name × AObj) → Option AObj
  | [] => none
  | (m, o) :: l => match eqN m n with | true => some o | false => findO n l
theorem findO_spec {n : Name} : ∀ {l : List (Name × AObj)} {o : AObj}, findO n l = some o → aget n l = some o
  | [], o, h => by simp [findO] at h
  | (m, p) :: l, o, h => by
    simp only [findO] at h
    simp only [aget]
    split at h
    · rename_i hm
      rw [if_pos (eqN_spec hm)]
      exact h
    · rename_i hm
      rw [if_neg (fun e => by rw [e, eqN_self] at hm; simp at hm)]
      exact findO_spec h

/-- All objects of the one heap lie in the other. -/
def staysB : List (Name × AObj) → List (Name × AObj) → Bool
  | [], _ => true
  | (n, o) :: l, h => (match findO n h with
    | some p => (match eqO o p with | true => staysB l h | false => false)
    | none => false)
theorem staysB_spec : ∀ {a b : List (Name × AObj)}, staysB a b = true → Stays a b
  | [], _, _ => fun n ob h => by simp [aget] at h
  | (n, o) :: l, b, h => by
    simp only [staysB] at h
    split at h
    · rename_i p hp
      split at h
      · rename_i hab
        obtain rfl := eqO_spec hab
        intro k ob hk
        simp only [aget] at hk
        split at hk
        · rename_i hkn
          simp only [Option.some.injEq] at hk
          subst hk
          subst hkn
          exact findO_spec hp
        · exact staysB_spec h k ob hk
      · simp at h
    · simp at h

def eqHs : (List (Name × AObj)) → (List (Name × AObj)) → Bool
  | [], [] => true
  | (n, o) :: l, (m, p) :: r => (match eqN n m && eqO o p with | true => eqHs l r | false => false)
  | _, _ => false
theorem eqHs_spec : ∀ {a b : List (Name × AObj)}, eqHs a b = true → a = b
  | [], [], _ => rfl
  | [], _ :: _, h => by simp [eqHs] at h
  | _ :: _, [], h => by simp [eqHs] at h
  | (n, o) :: l, (m, p) :: r, h => by
    simp only [eqHs] at h
    split at h
    · rename_i hab
      simp only [Bool.and_eq_true] at hab
      rw [eqN_spec hab.1, eqO_spec hab.2, eqHs_spec h]
    · simp at h


/-! ### Two names change places -/
def swN (k : Nat) : Name → Name
  | .loc i => .loc i
  | .out o => match Nat.beq o k with
    | true => .out (k + 1)
    | false => (match Nat.beq o (k + 1) with | true => .out k | false => .out o)
mutual
def swV (k : Nat) : AVal → AVal
  | .dat d => .dat d
  | .own es => .own es
  | .ref cs => .ref cs
  | .ptr n off => .ptr (swN k n) off
  | .map n => .map (swN k n)
  | .win n s off len => .win (swN k n) s off len
  | .fn f a b => .fn f (swL k a) (swL k b)
  | .agg cs => .agg (swL k cs)
  | .tup cs => .tup (swL k cs)
  | .undef => .undef
def swL (k : Nat) : List AVal → List AVal
  | [] => []
  | a :: r => swV k a :: swL k r
end
def swO (k : Nat) : AObj → AObj
  | .cells cs => .cells (swL k cs)
  | .map es => .map es
def swH (k : Nat) : List (Name × AObj) → List (Name × AObj)
  | [] => []
  | (n, o) :: r => (swN k n, swO k o) :: swH k r
def swap2 : List (Name × AObj) → List (Name × AObj)
  | x :: y :: r => y :: x :: r
  | r => r
def swS (k : Nat) (s : AState) : AState := ⟨swL k s.tmps, swH k s.locs, swap2 (swH k s.heap), s.next⟩

theorem swN_out (k o : Nat) : swN k (.out o) = if o = k then .out (k + 1) else if o = k + 1 then .out k else .out o := by
  simp only [swN]
  by_cases h1 : o = k
  · subst h1; simp
  · have e1 : Nat.beq o k = false := by cases h : Nat.beq o k; rfl; exact absurd (Nat.eq_of_beq_eq_true h) h1
    rw [e1, if_neg h1]
    by_cases h2 : o = k + 1
    · subst h2; simp
    · have e2 : Nat.beq o (k + 1) = false := by cases h : Nat.beq o (k + 1); rfl; exact absurd (Nat.eq_of_beq_eq_true h) h2
      simp only [e2, if_neg h2]

theorem swN_inv (k : Nat) : ∀ n, swN k (swN k n) = n
  | .loc _ => rfl
  | .out o => by
    rw [swN_out]
    by_cases h1 : o = k
    · subst h1; rw [if_pos rfl, swN_out]; simp
    · rw [if_neg h1]
      by_cases h2 : o = k + 1
      · subst h2; rw [if_pos rfl, swN_out]; simp
      · rw [if_neg h2, swN_out, if_neg h1, if_neg h2]

section
variable {w : World} {R : Own} {N : Name → Option Nat} {k : Nat}
mutual
theorem RepV.sw : ∀ {a : AVal} {v : Value} {bs : List Nat}, RepV w R N a v bs → RepV w R (fun n => N (swN k n)) (swV k a) v bs
  | .dat _, _, _, h => by simp only [swV, RepV] at h ⊢; exact h
  | .own _, _, _, h => by simp only [swV, RepV] at h ⊢; exact h
  | .ref _, _, _, h => by simp only [swV, RepV] at h ⊢; exact h
  | .ptr n off, _, _, h => by
    simp only [swV, RepV] at h ⊢
    obtain ⟨h0, b, hb, e⟩ := h
    exact ⟨h0, b, by rw [swN_inv]; exact hb, e⟩
  | .map n, _, _, h => by
    simp only [swV, RepV] at h ⊢
    obtain ⟨h0, b, hb, e⟩ := h
    exact ⟨h0, b, by rw [swN_inv]; exact hb, e⟩
  | .win n s off len, _, _, h => by
    simp only [swV, RepV] at h ⊢
    obtain ⟨h0, b, cap, hb, e⟩ := h
    exact ⟨h0, b, cap, by rw [swN_inv]; exact hb, e⟩
  | .fn f a c, _, _, h => by
    simp only [swV, RepV] at h ⊢
    obtain ⟨h0, vs, us, e, h1, h2⟩ := h
    exact ⟨h0, vs, us, e, RepVs.sw (as := a) h1, RepVs.sw (as := c) h2⟩
  | .agg cs, _, _, h => by
    simp only [swV, RepV] at h ⊢
    obtain ⟨vs, e, h1⟩ := h
    exact ⟨vs, e, RepVs.sw (as := cs) h1⟩
  | .tup cs, _, _, h => by
    simp only [swV, RepV] at h ⊢
    obtain ⟨vs, e, h1⟩ := h
    exact ⟨vs, e, RepVs.sw (as := cs) h1⟩
  | .undef, _, _, h => by simp only [swV, RepV] at h ⊢; exact h
theorem RepVs.sw : ∀ {as : List AVal} {vs : List Value} {bs : List Nat}, RepVs w R N as vs bs → RepVs w R (fun n => N (swN k n)) (swL k as) vs bs
  | [], _, _, h => by simp only [swL, RepVs] at h ⊢; exact h
  | a :: as, _, _, h => by
    simp only [swL, RepVs] at h ⊢
    obtain ⟨v, vs', b1, b2, e1, e2, h1, h2⟩ := h
    exact ⟨v, vs', b1, b2, e1, e2, RepV.sw (a := a) h1, RepVs.sw (as := as) h2⟩
end

theorem swL_append : ∀ (a b : List AVal), swL k (a ++ b) = swL k a ++ swL k b
  | [], b => rfl
  | x :: a, b => by simp only [List.cons_append, swL, swL_append a b]
theorem swL_undef : ∀ (n : Nat), swL k (List.replicate n .undef) = List.replicate n .undef
  | 0 => rfl
  | n + 1 => by simp only [List.replicate_succ, swL, swV, swL_undef n]

theorem isP_sw {a : AVal} (h : isP (swV k a) = true) : isP a = true := by
  cases a <;> simp only [swV] at h <;> first | exact h | rfl | simp [isP] at h
theorem bldSh_sw {cs : List AVal} (h : bldSh (swL k cs) = true) : bldSh cs = true := by
  match cs with
  | [] => simp [swL, bldSh] at h
  | [a] => simp [swL, bldSh] at h
  | [a, b] =>
    cases b with
    | own es => simp only [swL, swV, bldSh] at h ⊢; exact isP_sw h
    | dat d =>
      simp only [swL, swV] at h
      unfold bldSh at h
      split at h
      · rename_i heq; simp at heq
      · rename_i p es heq
        simp at heq
        obtain ⟨rfl, rfl⟩ := heq
        exact isP_sw h
      · rename_i p heq
        simp at heq
        obtain ⟨rfl, rfl⟩ := heq
        exact isP_sw h
      · simp at h
    | _ => simp [swL, swV, bldSh] at h
  | a :: b :: c :: r => simp [swL, bldSh] at h

theorem RepObj.sw {o : AObj} {b : Nat} {bs : List Nat} (h : RepObj w R N o b bs) : RepObj w R (fun n => N (swN k n)) (swO k o) b bs := by
  cases o with
  | cells cs =>
    obtain ⟨vs, elem, sp, hb, hr, hR, hsh⟩ := h
    refine ⟨vs, elem, sp, hb, ?_, hR, fun hh => hsh (bldSh_sw hh)⟩
    have := hr.sw (k := k)
    rwa [swL_append, swL_undef] at this
  | map es => exact h

theorem RepObjs.sw : ∀ {os : List (Name × AObj)} {bs : List Nat}, RepObjs w R N os bs → RepObjs w R (fun n => N (swN k n)) (swH k os) bs
  | [], _, h => h
  | (n, _) :: _, _, ⟨b, b1, b2, e, hN, h1, h2⟩ => ⟨b, b1, b2, e, by show N (swN k (swN k n)) = _; rw [swN_inv]; exact hN, h1.sw, RepObjs.sw h2⟩

theorem RepObjs.swap2 {os : List (Name × AObj)} {bs : List Nat} (h : RepObjs w R N os bs) : ∃ bs', RepObjs w R N (swap2 os) bs' ∧ bs'.Perm bs := by
  match os with
  | [] => exact ⟨bs, h, List.Perm.refl _⟩
  | [x] => exact ⟨bs, h, List.Perm.refl _⟩
  | (n, o) :: (m, p) :: r =>
    obtain ⟨b, b1, b2, rfl, hN, h1, c, c1, c2, rfl, hM, h2, h3⟩ := h
    refine ⟨_, ⟨c, c1, _, rfl, hM, h2, b, b1, c2, rfl, hN, h1, h3⟩, ?_⟩
    rw [List.perm_iff_count]
    intro q
    simp only [List.count_append, List.count_cons]
    omega

theorem outs_sw : outs (fun n => N (swN k n)) = fun n => outs N (swN k n) := by
  funext n
  cases n with
  | loc i => rfl
  | out o =>
    have : ∃ o', swN k (.out o) = .out o' := by rw [swN_out]; split; exact ⟨_, rfl⟩; split; exact ⟨_, rfl⟩; exact ⟨_, rfl⟩
    obtain ⟨o', e⟩ := this
    simp only [outs, e]
end

theorem ren_swap {G : Globs} {k : Nat} {s : AState} (hk : k + 1 < s.next) : Renm G k (swS k s) s := by
  intro w R N tmps bsT bsL bsH bsF hr
  obtain ⟨bsH', hH, hp⟩ := (hr.heap.sw (k := k)).swap2
  refine ⟨fun n => N (swN k n), bsT, bsL, bsH', ⟨by simp only [RepV], hr.tmps.sw, hr.locs.sw, by rw [outs_sw]; exact hH, ?_, ?_, hr.glob, hr.frame⟩, ?_⟩
  · have := hr.nodup
    simp only [List.nil_append] at this ⊢
    refine (List.Perm.nodup_iff ?_).1 this
    exact (((hp.symm.append_right bsF).append_left bsL).append_left bsT)
  · intro o b hb
    have hb : N (swN k (.out o)) = some b := hb
    rw [swN_out] at hb
    show o < s.next
    split at hb
    · rename_i h; subst h; omega
    · split at hb
      · rename_i h; subst h; exact hk
      · exact hr.next o b hb
  · intro o b ho hb
    show N (swN k (.out o)) = some b
    rw [swN_out, if_neg (by omega), if_neg (by omega)]
    exact hb

def sameS (s s' : AState) : Bool := eqAs s.tmps s'.tmps && eqHs s.locs s'.locs && eqHs s.heap s'.heap && Nat.beq s.next s'.next
theorem sameS_spec {s s' : AState} (h : sameS s s' = true) : s = s' := by
  unfold sameS at h
  simp only [Bool.and_eq_true] at h
  obtain ⟨t, l, hh, n⟩ := s
  obtain ⟨t', l', hh', n'⟩ := s'
  obtain ⟨⟨⟨h1, h2⟩, h3⟩, h4⟩ := h
  rw [show t = t' from eqAs_spec h1, show l = l' from eqHs_spec h2, show hh = hh' from eqHs_spec h3, show n = n' from Nat.eq_of_beq_eq_true h4]

def renB (k : Nat) (s0 s : AState) : Bool := match sameS s0 s with | true => true | false => Nat.blt (k + 1) s.next && sameS s0 (swS k s)
theorem renB_spec {G : Globs} {k : Nat} {s0 s : AState} (h : renB k s0 s = true) : Renm G k s0 s := by
  unfold renB at h
  split at h
  · rename_i hs
    rw [sameS_spec hs]
    exact fun w R N tmps bsT bsL bsH bsF hr => ⟨N, bsT, bsL, bsH, hr, fun _ _ _ h => h⟩
  · simp only [Bool.and_eq_true, Nat.blt_eq] at h
    rw [sameS_spec h.2]
    exact ren_swap h.1
end Go.Tp
