/- HierarchyTree returns true and changes nothing, for arguments of bulk at most 1048576 (the card of the second form; conditions: those of the given row). Names are shortened by a program, for the claim's bound. Part 2. -/
import Derived.Test.YtiihadmgkoamoaaGreatDoorQ01
set_option linter.unusedVariables false
set_option linter.unusedSimpArgs false
set_option maxRecDepth 100000
set_option maxHeartbeats 4000000
namespace Go.Tp
section
variable {P : Program} {E : bq} {G : bE} {H : Hints}
/-! ### One step against another -/
variable (P E G H) in
/-- An operation of the region, by its kind. -/
def U3 (ops : Array Oper) (h : az) (i : Nat) (K : aa -> Prop) (s : aa) : Prop :=
 ∃ (lone : Bool) (o : Oper), (i, lone) ∈ h.pre /\ ops[i]? = some o /\ (if lone = true then JD (aB P G) E G H (aO H ops.toList h.pre) h.tk ops.toList o K s else ∃ a, eE E G (aO H ops.toList h.pre || quietAt H ops.toList h.pre i) ops.toList o s = some a /\ K (s.put o.dst a))
theorem nH {fh : Bool} {tk : List Nat} {all : List Oper} {o : Oper} {K K' : aa -> Prop} {s : aa} (hk : ∀ s, K s -> K' s) (h : JD (aB P G) E G H fh tk all o K s) : JD (aB P G) E G H fh tk all o K' s := by
 unfold JD at h ⊢
 split
 ·rename_i hw; simp [hw] at h
 rename_i b hw
 simp only [hw] at h
 split
 ·rename_i hb
  simp only [hb, if_true] at h
  split
  ·rename_i c hc
   simp only [hc] at h
   split
   ·rename_i f args s2 ha
    simp only [ha] at h
    cases hpu : gq H o with
    | true => rw [hpu] at h; exact h.mono fun v heap n hq h1 h2 => ⟨(hq h1 h2).1, hk _ (hq h1 h2).2⟩
    | false => rw [hpu] at h; exact h.mono fun v heap n hq h1 h2 => ⟨(hq h1 h2).1, hk _ (hq h1 h2).2⟩
   rename_i ha
   simp [ha] at h
  rename_i hc
  simp only [hc] at h
  split
  ·rename_i t ht
   simp only [ht] at h
   split
   ·rename_i s1 hs1
    simp only [hs1] at h
    split
    ·rename_i s' hs'
     simp only [hs'] at h
     exact hk _ h
    rename_i hs'; simp [hs'] at h
   rename_i hs1; simp [hs1] at h
  rename_i ht
  simp only [ht] at h
  split
  ·rename_i hst
   simp only [hst] at h
   split
   ·rename_i s' hs'
    simp only [hs'] at h
    exact hk _ h
   rename_i hs'; simp [hs'] at h
  rename_i hst; simp [hst] at h
 rename_i hb
 simp only [hb] at h
 exact hk _ h
theorem MV {ops : Array Oper} {h : az} {i : Nat} {K K' : aa -> Prop} {s : aa} (hk : ∀ s, K s -> K' s) (hs : U3 P E G H ops h i K s) : U3 P E G H ops h i K' s := by
 obtain ⟨lone, o, h1, h2, h3⟩ := hs
 refine ⟨lone, o, h1, h2, ?_⟩
 split
 ·rename_i hl
  rw [if_pos hl] at h3
  exact nH hk h3
 rename_i hl
 rw [if_neg hl] at h3
 obtain ⟨a, h4, h5⟩ := h3
 exact ⟨a, h4, hk _ h5⟩
theorem mX {all : List Oper} {pre : List (Nat × Bool)} : ∀ {j : Nat} {o : Oper} {c : Call}, (j, true) ∈ pre -> all[j]? = some o -> cV o.op = some c -> gq H o = false -> aO H all pre = false := by
 induction pre with
 | nil => intro j o c h; simp at h
 | cons p r ih =>
  intro j o c h ho hc hpu
  obtain ⟨k, l⟩ := p
  simp only [aO]
  rcases List.mem_cons.1 h with h | h
  ·simp at h; obtain ⟨rfl, rfl⟩ := h; rw [ho]; simp [hc, hpu]
  rw [ih h ho hc hpu]; simp
/-- A store and a copy from slot to slot, in either order. -/
theorem Fs {fh q take : Bool} {all : List Oper} {oi oj : Oper} {a : ae} (ha : iG oi oj = true) {s s2 : aa} (hq : eE E G fh all oi s = some a) (hs : cK E G q take oj (s.put oi.dst a) = some s2) :
  ∃ s3, cK E G q take oj s = some s3 /\ s3.put oi.dst a = s2 /\ eE E G fh all oi s3 = some a := by
 unfold iG at ha
 simp only [Bool.and_eq_true, Bool.or_eq_true, Option.isNone_iff_eq_none] at ha
 obtain ⟨⟨⟨⟨g1, _⟩, g3⟩, _⟩, g5⟩ := ha
 have hof : ∃ x d, opsL oi.op = [.tmp x] /\ oi.dst = some d /\ cV oi.op = none /\ mC oi.op = false /\ (∀ vals, looks oi.op vals = none) /\ (opsL oj.op).any (de x) = false /\ (opsL oj.op).any (de d) = false /\ oj.dst ≠ some x /\ oj.dst ≠ some d := by
  split at g5
  ·rename_i y k d' e1 e2
   simp only [Bool.and_eq_true, Bool.not_eq_true', bne_iff_ne] at g5
   exact ⟨y, d', by rw [e1]; rfl, e2, by rw [e1]; rfl, by rw [e1]; rfl, fun _ => by rw [e1]; rfl, g5.1.1.1, g5.1.1.2, g5.1.2, g5.2⟩
  ·rename_i y d' e1 e2
   simp only [Bool.and_eq_true, Bool.not_eq_true', bne_iff_ne] at g5
   exact ⟨y, d', by rw [e1]; rfl, e2, by rw [e1]; rfl, by rw [e1]; rfl, fun _ => by rw [e1]; rfl, g5.1.1.1, g5.1.1.2, g5.1.2, g5.2⟩
  simp at g5
 obtain ⟨x, d, hx, hd, hc, hal, hl, h1, h2, hpx, hpd⟩ := hof
 rw [hd] at hs ⊢
 obtain ⟨v, k1, k2⟩ := qI g3 hs
 have k1 := k1 s.tmps (by
  intro t ht
  have htd : d ≠ t := fun e => by rw [← e, h2] at ht; simp at ht
  simp only [aa.put]
  rw [bO htd])
 have hst : ({ (s.put (some d) a) with tmps := s.tmps } : aa) = s := rfl
 rw [hst] at k1
 refine ⟨_, k1, ?_, ?_⟩
 ·obtain ⟨t3, l3, h3, n3⟩ := s2
  simp only [aa.put] at k2 ⊢
  rw [k2, pq h2, qE hpd]
 have hget : bp (gv (eV s.tmps (jL q oj.op) (opsL oj.op)) oj.dst v) x = bp s.tmps x := by
  rw [qF hpx, gY h1]
 have hev : aJ G ({ s2 with tmps := gv (eV s.tmps (jL q oj.op) (opsL oj.op)) oj.dst v } : aa) none 0 (opsL oi.op) = aJ G s none 0 (opsL oi.op) := by
  rw [hx]
  simp only [aJ, dZ, hget]
 have hlk : ∀ (s' : aa) vals, bd s' oi.op vals = none := fun s' vals => by unfold bd; rw [hl]
 unfold eE at hq ⊢
 simp only [g1, dj, hev, hlk] at hq ⊢
 exact hq
/-- A copy that takes over, and what comes up beside it, in either order. -/
theorem JI {fh q take : Bool} {ops : Array Oper} {oi oj : Oper} {a : ae} (hmv : rN oj = true) (h1 : ∀ d, oi.dst = some d -> d ∉ oj.looksAt ops) (h2 : ∀ d, oi.dst = some d -> oj.dst ≠ some d) (h3 : ∀ d, oj.dst = some d -> d ∉ oi.looksAt ops)
  {s s2 : aa} (hq : eE E G fh ops.toList oi s = some a) (hs : cK E G q take oj (s.put oi.dst a) = some s2) :
  ∃ s3, cK E G q take oj s = some s3 /\ s3.put oi.dst a = s2 /\ eE E G fh ops.toList oi s3 = some a := by
 unfold rN at hmv
 split at hmv
 rotate_left
 ·simp at hmv
 rename_i x d2 hop hd2
 have hx : opsL oj.op = [.tmp x] := by rw [hop]; rfl
 have hxl : x ∈ oj.looksAt ops := by
  have := gS (o := oj) (all := ops.toList) (t := x) (by rw [hx]; simp)
  simpa using this
 obtain ⟨val, e2, k⟩ := yX hx (fun _ => by rw [hop]; rfl) (fun vals ob out h => by
  rw [hop] at h
  simp only [iR, Bc] at h
  split at h
  ·simp at h; subst h; rfl
  simp at h) hd2 hs
 have hgx : bp (s.put oi.dst a).tmps x = bp s.tmps x := cH (fun e => h1 x e hxl)
 have k1 := k s hgx.symm
 refine ⟨_, k1, ?_, ?_⟩
 ·rw [e2]
  cases hd : oi.dst with
  | none => rfl
  | some d =>
   have hdx : x ≠ d := fun e => h1 d hd (e ▸ hxl)
   have hdd : d2 ≠ d := fun e => h2 d hd (by rw [hd2, e])
   have hany : List.any [Operand.tmp x] (de d) = false := by
    simp only [List.any_cons, List.any_nil, Bool.or_false, de]
    cases hb : Nat.beq x d with
    | false => rfl
    | true => exact absurd (Nat.eq_of_beq_eq_true hb) hdx
   simp only [aa.put]
   rw [pq hany, List.set_comm _ _ hdd]
 rw [← hq]
 refine ib ?_ (.of_eq rfl (fun _ => rfl))
 intro t ht
 have htd : d2 ≠ t := fun e => h3 d2 hd2 (by rw [e]; simpa using ht)
 show cD (bp ((eV s.tmps (jL q oj.op) [.tmp x]).set d2 val) t) = _
 rw [bO htd]
 unfold eV
 cases hm : jL q oj.op with
 | none => rfl
 | some k =>
  cases k with
  | zero =>
   have e1 := jD (s := s) (x := .tmp x) t
   simp only [bB, List.getElem?_cons_zero] at e1
   simpa using e1
  | succ k => rfl
theorem Qa {ops : Array Oper} {h : az} (hcs : dA ops h = true) {i j : Nat} {oi oj : Oper} {a : ae} (hi : ops[i]? = some oi) (him : (i, false) ∈ h.pre) (hj : ops[j]? = some oj) (hap : oi.apart ops oj = true)
  (hntk : ∀ t k o', eQ oj.op = some t -> k ∈ fp ops.toList t h.tk -> ops.toList[k]? = some o' -> ∀ e ∈ o'.after, Region.binds .any e = true -> e.on ≠ i) {K : aa -> Prop} {s : aa}
  (hF : ∀ c, cV oj.op = some c -> gq H oj = false -> lm H oj = false -> (j, true) ∈ h.pre -> (aO H ops.toList h.pre || quietAt H ops.toList h.pre i) = false)
  (hG : jA oj.op = true -> (j, true) ∈ h.pre -> rN oj = true ∨ iG oi oj = true)
  (hy : eE E G (aO H ops.toList h.pre || quietAt H ops.toList h.pre i) ops.toList oi s = some a) (hs : U3 P E G H ops h j K (s.put oi.dst a)) :
  U3 P E G H ops h j (fun s' => eE E G (aO H ops.toList h.pre || quietAt H ops.toList h.pre i) ops.toList oi s' = some a /\ K (s'.put oi.dst a)) s := by
 obtain ⟨h1, h2, h3⟩ := Oper.apart_spec hap
 obtain ⟨lone, o, hm, ho, hs⟩ := hs
 rw [hj] at ho
 simp at ho
 subst ho
 refine ⟨lone, oj, hm, hj, ?_⟩
 have hsimj : qM oj ops.toList s (s.put oi.dst a) := C9 (by simpa using h1)
 have hdj : ∀ (s : aa) (v : ae), qM oi ops.toList s (s.put oj.dst v) := fun s v => C9 (by simpa using h3)
 have hlj : ∀ {fh : Bool} (s : aa) (d : Option Tmp) (v : ae), vK fh s (s.put d v) := fun s d v => .of_eq (cN s d v).1 (fun _ => (cN s d v).2.1)
 split
 ·rename_i hl
  rw [if_pos hl] at hs
  subst hl
  unfold JD at hs ⊢
  rw [nj hsimj] at hs
  split
  ·rename_i hw; simp [hw] at hs
  rename_i b hw
  simp only [hw] at hs
  split
  ·rename_i hb
   simp only [hb, if_true] at hs
   split
   ·rename_i c hc
    simp only [hc] at hs
    have hop := tD hc
    rw [CH (fun d hd hmem => h1 d hd (List.mem_append_left _ (List.mem_filterMap.2 ⟨.tmp d, by rw [hop]; simpa [Op.operands] using hmem, rfl⟩)))] at hs
    cases hcal : dv E G H c s with
    | none => rw [hcal] at hs; simp at hs
    | some x =>
     obtain ⟨f, args, s2⟩ := x
     rw [hcal] at hs
     simp only [Option.map_some] at hs
     obtain ⟨hsim, hlocs⟩ := CG hcal oi ops.toList
     have e1 : (s2.put oi.dst a).heap = s2.heap := (cN s2 oi.dst a).2.1
     have e2 : (s2.put oi.dst a).next = s2.next := (cN s2 oi.dst a).2.2
     rw [e1, e2] at hs
     dsimp only at hs ⊢
     cases hpu : gq H oj with
     | true =>
      rw [hpu] at hs
      refine hs.mono fun v heap n hq b1 b2 => ⟨(hq b1 b2).1, ?_, ?_⟩
      ·rw [← hy]
       refine ib ?_ ?_
       ·have k1 : qM oi ops.toList s { s2 with next := n } := hsim
        exact k1.trans (hdj _ v)
       exact .of_eq (by rw [(cN _ oj.dst v).1]; exact hlocs) (fun _ => by rw [(cN _ oj.dst v).2.1]; exact (lA hcal : s2.heap = s.heap))
      have := (hq b1 b2).2
      have e : (⟨(s2.put oi.dst a).tmps, (s2.put oi.dst a).locs, s2.heap, n⟩ : aa) = ({ s2 with next := n } : aa).put oi.dst a := by cases oi.dst <;> rfl
      rw [e, put_comm h2] at this
      exact this
     | false =>
      rw [hpu] at hs
      refine hs.mono fun v heap n hq b1 b2 => ⟨(hq b1 b2).1, ?_, ?_⟩
      ·cases hrd : lm H oj with
       | true =>
        refine Ft ?_ ?_ hy
        ·have k1 : qM oi ops.toList s { s2 with heap := heap, next := n } := hsim
         exact k1.trans (hdj _ v)
        intro m ob hm1
        have hst := (hq b1 b2).1 hrd
        rw [kI]
        cases m with
        | loc k => simp only [aa.obj] at hm1 ⊢; rw [hlocs]; exact hm1
        | out k => simp only [aa.obj] at hm1 ⊢; exact hst _ _ (by rw [(lA hcal : s2.heap = s.heap)]; exact hm1)
       | false =>
        have hfh := hF c hc hpu hrd hm
        rw [← hy]
        refine ib ?_ ?_
        ·have k1 : qM oi ops.toList s { s2 with heap := heap, next := n } := hsim
         exact k1.trans (hdj _ v)
        exact .of_eq (by rw [(cN _ oj.dst v).1]; exact hlocs) (fun hf => by rw [hfh] at hf; simp at hf)
      have := (hq b1 b2).2
      rw [Ma, put_comm h2] at this
      exact this
   rename_i hc
   simp only [hc] at hs
   split
   ·rename_i t ht
    simp only [ht] at hs
    obtain ⟨_, rr, hops⟩ := rD ht
    have htj : t ∈ oj.looksAt ops := by
     have := gS (o := oj) (all := ops.toList) (t := t) (by rw [hops]; simp)
     simpa using this
    have hops_not : ∀ d, oi.dst = some d -> Operand.tmp d ∉ opsL oj.op := fun d hd hmem => h1 d hd (by have := gS (o := oj) (all := ops.toList) hmem; simpa using this)
    have etk : kq h.tk t (s.put oi.dst a) = kq h.tk t s := by unfold kq; rw [cH (fun e => h1 t e htj)]
    rw [etk] at hs
    -- the loads that the append owns by are others than oi
    have hother : ∀ k ∈ fp ops.toList t (kq h.tk t s), k ≠ i := fun k hk e => by
     obtain ⟨_, o', ho', hd'⟩ := jH (lC hk)
     rw [e] at ho'
     have : ops[i]? = some o' := by simpa using ho'
     rw [hi] at this
     simp at this
     subst this
     exact h1 t hd' htj
    have hspec : ∀ k ∈ fp ops.toList t (kq h.tk t s), ∀ o', ops.toList[k]? = some o' -> (o'.dst = some t /\ oi.dst ≠ some t /\ t ∉ oi.looksAt ops) /\ ∀ T u, o'.op = .load T (.tmp u) -> oi.dst ≠ some u := fun k hk o' ho' => by
     obtain ⟨hk1, o2, ho2, hd2⟩ := jH (lC hk)
     rw [ho2] at ho'
     simp at ho'
     subst ho'
     obtain ⟨⟨d, e1, e2, e3⟩, e4⟩ := lq hcs (i := k) (by simp [hk1]) (by simpa using ho2) him (Ne.symm (hother k hk)) hi
     rw [hd2] at e1
     simp at e1
     subst e1
     exact ⟨⟨hd2, e2, e3 rfl⟩, fun T u hop => by
      rcases e4 T u hop with h | ⟨e, he, hb, hon⟩
      ·exact h
      exact absurd hon (hntk t k o2 ht (lC hk) ho2 e he hb)⟩
    cases hsh : dg (aO H ops.toList h.pre) ops.toList (fp ops.toList t (kq h.tk t s)) s with
    | none =>
     exfalso
     -- what is shown with the value in its slot is shown without
     have : ∀ (tk : List Nat) (s s1 : aa), (∀ k ∈ tk, ∀ o', ops.toList[k]? = some o' -> (o'.dst = some t /\ oi.dst ≠ some t /\ t ∉ oi.looksAt ops) /\ ∀ T u, o'.op = .load T (.tmp u) -> oi.dst ≠ some u) -> dg (aO H ops.toList h.pre) ops.toList tk (s.put oi.dst a) = some s1 -> ∃ s2, dg (aO H ops.toList h.pre) ops.toList tk s = some s2 := by
      intro tk
      induction tk with
      | nil => intro s s1 _ _; exact ⟨s, rfl⟩
      | cons k r ih =>
       intro s s1 hh hh2
       obtain ⟨o', T, u, t', n, off, cs, es, es2, ho', hop, hd, hg, hu, hok, hob, hes, ht', hrest⟩ := fx hh2
       obtain ⟨⟨q1, q2, _⟩, q3⟩ := hh k (by simp) o' ho'
       have hdu := q3 T u hop
       rw [hd] at q1
       simp at q1
       subst q1
       rw [cH hdu] at hu
       rw [cH q2] at ht'
       rw [kI] at hob
       have e0 : (({ s.put oi.dst a with tmps := (s.put oi.dst a).tmps.set t' (.own es) } : aa).ju n (.cells (dd off [.dat (.slice es)] cs))) = (({ s with tmps := s.tmps.set t' (.own es) } : aa).ju n (.cells (dd off [.dat (.slice es)] cs))).put oi.dst a := by
        rw [← DC]
        congr 1
        cases hdd : oi.dst with
        | none => rfl
        | some d =>
         have hne : d ≠ t' := fun e => q2 (by rw [hdd, e])
         simp only [aa.put]
         rw [List.set_comm _ _ hne]
       rw [e0] at hrest
       obtain ⟨s3, hs3⟩ := ih _ _ (fun k hk => hh k (by simp [hk])) hrest
       refine ⟨s3, ?_⟩
       simp only [dg, ho', hop, hd, hg, hu, if_pos hok, hob, hes, ht']
       exact hs3
     cases hsh2 : dg (aO H ops.toList h.pre) ops.toList (fp ops.toList t (kq h.tk t s)) (s.put oi.dst a) with
     | none => simp [hsh2] at hs
     | some s1 =>
      obtain ⟨s2, hs2⟩ := this _ _ _ hspec hsh2
      rw [hsh] at hs2
      simp at hs2
    | some s1 =>
     have hput := wV (v := a) (dst := oi.dst) _ _ _ (fun k hk o' ho' _ => by rw [((hspec k hk o' ho').1).1]; exact ((hspec k hk o' ho').1).2.1) (fun k hk o' T u ho' hop => (hspec k hk o' ho').2 T u hop) hsh
     simp only [hput] at hs
     obtain ⟨q1, q3, q4⟩ := wU _ _ _ hsh
     cases hst : cK E G false false oj s1 with
     | none =>
      exfalso
      cases hst2 : cK E G false false oj (s1.put oi.dst a) with
      | none => simp [hst2] at hs
      | some s2 =>
       -- the same operands
       unfold cK at hst hst2
       rw [ln _ _ _ _ hops_not] at hst2
       have hlk : ∀ s' : aa, looks oj.op (aJ G s1 (jL false oj.op) 0 (opsL oj.op)) = none -> bd s' oj.op (aJ G s1 (jL false oj.op) 0 (opsL oj.op)) = none := fun s' hl => by unfold bd; rw [hl]
       cases hao : iR E false oj.op (aJ G s1 (jL false oj.op) 0 (opsL oj.op)) (bd (s1.put oi.dst a) oj.op (aJ G s1 (jL false oj.op) 0 (opsL oj.op))) with
       | none => simp [hao] at hst2
       | some out =>
        obtain ⟨hk, hl⟩ := oC ht hao
        rw [hlk _ hl] at hao hst
        rw [hao] at hst
        simp [du, hk] at hst
     | some s2 =>
      obtain ⟨v, he, hback⟩ := sx ht hst
      have hb2 := hback oi.dst a hops_not h2
      simp only [hb2] at hs
      dsimp only
      rw [hst]
      refine ⟨?_, hs⟩
      rw [← hy]
      subst he
      refine ib ?_ ?_
      ·refine qM.trans (s' := { s1 with tmps := s1.tmps.set t (cD (bp s1.tmps t)) }) ?_ (hdj _ v)
       intro t' ht'
       have e1 := jD (s := s1) (x := .tmp t) t'
       simp only [bB, List.getElem?_cons_zero] at e1
       rw [e1, q4 t' (fun k hk o' ho' e => by
        obtain ⟨⟨g1, _, g3⟩, _⟩ := hspec k hk o' ho'
        rw [g1] at e
        simp at e
        subst e
        exact g3 (by simpa using ht'))]
      exact q1.trans (.of_eq (by rw [(cN _ oj.dst v).1]) (fun _ => by rw [(cN _ oj.dst v).2.1]))
   rename_i ht
   simp only [ht] at hs
   split
   ·rename_i hst
    simp only [hst] at hs
    cases hs2 : cK E G (readOnly H.moves ops.toList oj) (ku H ops.toList oj) oj (s.put oi.dst a) with
    | none => rw [hs2] at hs; simp at hs
    | some s2 =>
     rw [hs2] at hs
     obtain ⟨s3, k1, k2, k3⟩ : ∃ s3, cK E G (readOnly H.moves ops.toList oj) (ku H ops.toList oj) oj s = some s3 /\ s3.put oi.dst a = s2 /\ eE E G (aO H ops.toList h.pre || quietAt H ops.toList h.pre i) ops.toList oi s3 = some a := by
      rcases hG hst hm with hmv | hap
      ·exact JI hmv (by simpa using h1) h2 (by simpa using h3) hy hs2
      exact Fs hap hy hs2
     rw [k1]
     exact ⟨k3, by rw [k2]; exact hs⟩
   rename_i hst
   simp [hst] at hs
  rename_i hb
  simp only [hb] at hs
  refine ⟨?_, ?_⟩
  ·rw [← hy]
   exact ib (hdj _ _) (hlj _ _ _)
  have := hs
  simp only [Bool.false_eq_true, if_false] at this
  rw [put_comm h2] at this
  exact this
 rename_i hl
 rw [if_neg hl] at hs
 obtain ⟨b, hb1, hb2⟩ := hs
 rw [ib hsimj (hlj _ _ _)] at hb1
 refine ⟨b, hb1, ?_, ?_⟩
 ·rw [← hy]
  exact ib (hdj _ _) (hlj _ _ _)
 rw [put_comm h2] at hb2
 exact hb2
/-! ### All orders -/
variable (P E G H) in
def oH (ops : Array Oper) (h : az) (p : Array Bool) (T : aa -> Prop) : Nat -> Array Bool -> aa -> Prop
 | 0, listed, s => listed = p /\ T s
 | fuel + 1, listed, s =>
  (listed = p /\ T s) ∨ (listed ≠ p /\ Region.ready .any ops listed ≠ [] /\ ∀ i ∈ Region.ready .any ops listed, U3 P E G H ops h i (oH ops h p T fuel (bK listed i)) s) ∨
  (∃ i oi a, bK listed i = p /\ mB ops h p i = true /\ ops[i]? = some oi /\ (i, false) ∈ h.pre /\ i ∈ Region.ready .any ops listed /\ eE E G (aO H ops.toList h.pre || quietAt H ops.toList h.pre i) ops.toList oi s = some a /\ T (s.put oi.dst a))
theorem cG {ops : Array Oper} {listed : Array Bool} {i : Nat} (h : i ∈ Region.ready .any ops listed) (hsz : listed.size = ops.size) : listed[i]? = some false := by
 obtain ⟨h0, o, ho, _⟩ := mem_ready.1 h
 have hlt : i < ops.size := (Array.getElem?_eq_some_iff.1 ho).1
 have hl : i < listed.size := by omega
 simp [hl] at h0
 simp [hl, h0]
theorem ra {listed p : Array Bool} {i : Nat} (h : listed[i]? = some false) (e : bK listed i = p) : p.setIfInBounds i false = listed := by
 subst e
 have hl : i < listed.size := (Array.getElem?_eq_some_iff.1 h).1
 apply Array.ext_getElem?
 intro k
 unfold bK
 by_cases hk : i = k
 ·subst hk
  rw [h]
  simp [hl]
 rw [Array.getElem?_setIfInBounds_ne hk, Array.getElem?_setIfInBounds_ne hk]
/-- What has come up has waited for all that it waits for. -/
def fX (ops : Array Oper) (listed : Array Bool) : Prop := ∀ (d : Nat) (o : Oper), listed[d]? = some true -> ops[d]? = some o -> ∀ e ∈ o.after, Region.binds .any e = true -> listed.getD e.on false = true
theorem fX.step {ops : Array Oper} {listed : Array Bool} (h : fX ops listed) {j : Nat} (hj : j ∈ Region.ready .any ops listed) : fX ops (bK listed j) := by
 intro d o hd ho e he hb
 by_cases hdj : d = j
 ·subst hdj
  obtain ⟨_, o', ho', hafter⟩ := mem_ready.1 hj
  rw [ho] at ho'
  simp at ho'
  subst ho'
  exact getD_set_true (hafter e he hb)
 unfold bK at hd
 rw [Array.getElem?_setIfInBounds_ne (Ne.symm hdj)] at hd
 exact getD_set_true (h d o hd ho e he hb)
theorem I3 {ops : Array Oper} {listed : Array Bool} {i : Nat} (hcl : fX ops listed) (hun : listed[i]? = some false) (hl : waited ops (bK listed i) i = true) : False := by
 unfold waited at hl
 obtain ⟨d, hd, hd2⟩ := List.any_eq_true.1 hl
 simp only [Bool.and_eq_true] at hd2
 obtain ⟨⟨h1, h2⟩, h3⟩ := hd2
 have hdi : d ≠ i := by simpa using h1
 split at h3
 ·rename_i o ho
  obtain ⟨ed, he1, he2⟩ := Array.any_eq_true'.1 h3
  simp only [Bool.and_eq_true, beq_iff_eq] at he2
  have hld : listed[d]? = some true := by
   unfold bK at h2
   rw [getD_set_ne false (Ne.symm hdi), Array.getD_eq_getD_getElem?] at h2
   cases hg : listed[d]? with
   | none => rw [hg] at h2; simp at h2
   | some b => rw [hg] at h2; simp at h2; rw [h2]
  have := hcl d o hld ho ed he1 he2.1
  rw [he2.2, Array.getD_eq_getD_getElem?, hun] at this
  simp at this
 simp at h3
theorem yc {ops : Array Oper} {listed p : Array Bool} {i : Nat} (hcl : fX ops listed) (hun : listed[i]? = some false) (e : bK listed i = p) (hl : (waited ops p i || Region.ready .any ops (p.setIfInBounds i false) == [i]) = true) : Region.ready .any ops listed = [i] := by
 have hback := ra hun e
 rw [Bool.or_eq_true] at hl
 rcases hl with hl | hl
 ·exfalso
  unfold waited at hl
  obtain ⟨d, hd, hd2⟩ := List.any_eq_true.1 hl
  simp only [Bool.and_eq_true] at hd2
  obtain ⟨⟨h1, h2⟩, h3⟩ := hd2
  have hdi : d ≠ i := by simpa using h1
  split at h3
  ·rename_i o ho
   obtain ⟨ed, he1, he2⟩ := Array.any_eq_true'.1 h3
   simp only [Bool.and_eq_true, beq_iff_eq] at he2
   have hld : listed[d]? = some true := by
    rw [← e] at h2
    unfold bK at h2
    rw [getD_set_ne false (Ne.symm hdi), Array.getD_eq_getD_getElem?] at h2
    cases hg : listed[d]? with
    | none => rw [hg] at h2; simp at h2
    | some b => rw [hg] at h2; simp at h2; rw [h2]
   have := hcl d o hld ho ed he1 he2.1
   rw [he2.2, Array.getD_eq_getD_getElem?, hun] at this
   simp at this
  simp at h3
 rw [← hback]; simpa using hl
theorem ri {ops : Array Oper} {listed : Array Bool} (hcl : fX ops listed) : ∀ (f i j : Nat), listed.getD i false = true -> reach ops.toList f i j = true -> listed.getD j false = true
 | 0, _, _, _, h => by simp [reach] at h
 | f + 1, i, j, hi, h => by
  simp only [reach] at h
  split at h
  ·rename_i o ho
   obtain ⟨e, he, h2⟩ := List.any_eq_true.1 h
   simp only [Bool.and_eq_true, Bool.or_eq_true, Nat.beq_eq] at h2
   have hi' : listed[i]? = some true := by
    rw [Array.getD_eq_getD_getElem?] at hi
    cases hg : listed[i]? with
    | none => rw [hg] at hi; simp at hi
    | some b => rw [hg] at hi; simp at hi; rw [hi]
   have h3 := hcl i o hi' (by simpa using ho) e (by simpa using he) h2.1
   rcases h2.2 with h4 | h4
   ·rw [← h4]; exact h3
   exact ri hcl f e.on j h3 h4
  simp at h
theorem kE {ops : Array Oper} {listed : Array Bool} (hcl : fX ops listed) {f i j : Nat} (hr : i ∈ Region.ready .any ops listed) (h : reach ops.toList f i j = true) (hj : listed.getD j true = false) : False := by
 obtain ⟨_, o, ho, hafter⟩ := mem_ready.1 hr
 have key : listed.getD j false = true := by
  cases f with
  | zero => simp [reach] at h
  | succ f =>
   have ho' : ops.toList[i]? = some o := by simpa using ho
   simp only [reach, ho'] at h
   obtain ⟨e, he, h2⟩ := List.any_eq_true.1 h
   simp only [Bool.and_eq_true, Bool.or_eq_true, Nat.beq_eq] at h2
   have h3 := hafter e (by simpa using he) h2.1
   rcases h2.2 with h4 | h4
   ·rw [← h4]; exact h3
   exact ri hcl f e.on j h3 h4
 rw [Array.getD_eq_getD_getElem?] at key hj
 cases hg : listed[j]? with
 | none => rw [hg] at key; simp at key
 | some b => rw [hg] at key hj; simp at key hj; rw [key] at hj; simp at hj
theorem vt {ops : Array Oper} {h : az} (hcs : dA ops h = true) (hca : mP ops h = true) (hcst : fO ops h = true) {p : Array Bool} {T : aa -> Prop} {i : Nat} {oi : Oper} {a : ae} (hi : ops[i]? = some oi) (hm : (i, false) ∈ h.pre)
  (hlast : (waited ops p i || Region.ready .any ops (p.setIfInBounds i false) == [i]) = true ∨ mB ops h p i = true) (hp : p[i]? = some true) :
  ∀ (fuel : Nat) (listed : Array Bool) (s : aa), listed.size = ops.size -> fX ops listed ->
   (∀ j oj, ops[j]? = some oj -> j ≠ i -> listed.getD j true = false -> (∀ e ∈ oj.after, Region.binds .any e = true -> e.on ≠ i) -> oi.apart ops oj = true) ->
   i ∈ Region.ready .any ops listed -> eE E G (aO H ops.toList h.pre || quietAt H ops.toList h.pre i) ops.toList oi s = some a ->
   oH P E G H ops h p T fuel (bK listed i) (s.put oi.dst a) -> oH P E G H ops h p T (fuel + 1) listed s := by
 intro fuel
 induction fuel with
 | zero =>
  intro listed s hsz hcl hfree hr hy hH
  have hun := cG hr hsz
  have hne : listed ≠ p := fun e => by rw [e, hp] at hun; simp at hun
  rcases hlast with hlast | hlast
  rotate_left
  ·exact .inr (.inr ⟨i, oi, a, hH.1, hlast, hi, hm, hr, hy, hH.2⟩)
  have hal := yc hcl hun hH.1 hlast
  refine .inr (.inl ⟨hne, fun h => (by rw [h] at hr; cases hr), fun j hj => ?_⟩)
  have hj' := hj
  rw [hal] at hj'
  simp at hj'
  subst hj'
  exact ⟨false, oi, hm, hi, by simp only [Bool.false_eq_true, if_false]; exact ⟨a, hy, hH⟩⟩
 | succ fuel ih =>
  intro listed s hsz hcl hfree hr hy hH
  have hun := cG hr hsz
  have hne : listed ≠ p := fun e => by rw [e, hp] at hun; simp at hun
  by_cases hlate : bK listed i = p /\ mB ops h p i = true /\ ¬ (waited ops p i || Region.ready .any ops (p.setIfInBounds i false) == [i]) = true
  ·have hT : T (s.put oi.dst a) := by
    rcases hH with ⟨_, hT⟩ | ⟨hne2, _⟩ | ⟨i', oi', a', e', _, hoi', _, hr', _, _⟩
    ·exact hT
    ·exact absurd hlate.1 hne2
    exfalso
    have hun' := cG hr' (by simpa [bK] using hsz)
    rw [hlate.1] at hun' e'
    have : (bK p i')[i']? = some true := by
     have hl : i' < p.size := (Array.getElem?_eq_some_iff.1 hun').1
     simp [bK, hl]
    rw [e', hun'] at this
    simp at this
   exact .inr (.inr ⟨i, oi, a, hlate.1, hlate.2.1, hi, hm, hr, hy, hT⟩)
  refine .inr (.inl ⟨hne, fun h => (by rw [h] at hr; cases hr), fun j hj => ?_⟩)
  by_cases hji : j = i
  ·subst hji
   exact ⟨false, oi, hm, hi, by simp only [Bool.false_eq_true, if_false]; exact ⟨a, hy, hH⟩⟩
  have h1 : U3 P E G H ops h j (oH P E G H ops h p T fuel (bK (bK listed i) j)) (s.put oi.dst a) := by
   rcases hH with ⟨e, hT⟩ | ⟨hne2, _, hall⟩ | ⟨i', oi', a', e', hlk, hoi', hm', hr', hy', hT'⟩
   ·exfalso
    have hlast' : (waited ops p i || Region.ready .any ops (p.setIfInBounds i false) == [i]) = true := by
     rcases hlast with h' | h'
     ·exact h'
     exact Classical.byContradiction fun hno => hlate ⟨e, h', hno⟩
    have hal := yc hcl hun e hlast'
    have hj' := hj
    rw [hal] at hj'
    simp at hj'
    exact absurd hj' hji
   ·exact hall j (ready_mono hj hji)
   have hun' := cG hr' (by simpa [bK] using hsz)
   have hii : i ≠ i' := by
    rintro rfl
    have hl : i < listed.size := (Array.getElem?_eq_some_iff.1 hun).1
    simp [bK, hl] at hun'
   have hb1 := ra hun' e'
   have hb2 := ra hun (rfl : bK listed i = bK listed i)
   have hjr : j ∈ Region.ready .any ops (bK listed i) := ready_mono hj hji
   have hji' : j = i' := by
    refine Classical.byContradiction fun hjn => ?_
    unfold mB at hlk
    split at hlk
    ·simp at hlk
    rename_i j0 r0 htl
    simp only [Bool.and_eq_true, Bool.or_eq_true, beq_iff_eq] at hlk
    obtain ⟨⟨⟨⟨⟨⟨⟨h1, _⟩, _⟩, _⟩, h5⟩, _⟩, _⟩, _⟩ := hlk
    rw [hb1] at h1
    have hj0 : j = j0 := by
     rcases h1 with h1 | h1 <;> rw [h1] at hjr <;> simp at hjr <;> rcases hjr with h' | h' <;> first | exact h' | exact absurd h' hjn
    subst hj0
    have h6 := List.all_eq_true.1 h5 (i, false) hm
    rw [hb1, hb2] at h6
    simp only [Bool.or_eq_true, beq_iff_eq, hii, false_or] at h6
    rcases h6 with h6 | h6
    ·exact I3 hcl hun h6
    simp at h6
    exact h6 hj
   subst hji'
   have hP : oH P E G H ops h p T fuel (bK (bK listed i) j) ((s.put oi.dst a).put oi'.dst a') := by
    rw [e']
    cases fuel with
    | zero => exact ⟨rfl, hT'⟩
    | succ fuel => exact .inl ⟨rfl, hT'⟩
   exact ⟨false, oi', hm', hoi', by simp only [Bool.false_eq_true, if_false]; exact ⟨a', hy', hP⟩⟩
  ·obtain ⟨hjun, oj, hoj, hafter⟩ := mem_ready.1 hj
   have hnot : ∀ e ∈ oj.after, Region.binds .any e = true -> e.on ≠ i := fun e he hb heq => by
    have h1 := hafter e he hb
    rw [heq] at h1
    rw [Array.getD_eq_getD_getElem?, hun] at h1
    simp at h1
   have hntk : ∀ t k o', eQ oj.op = some t -> k ∈ fp ops.toList t h.tk -> ops.toList[k]? = some o' -> ∀ e ∈ o'.after, Region.binds .any e = true -> e.on ≠ i := by
    intro t k o' ht hk ho' e he hb heq
    obtain ⟨lone, _, hmj, _, _⟩ := h1
    have hca' := hca
    unfold mP at hca'
    have g1 := List.all_eq_true.1 hca' (j, lone) hmj
    simp only [hoj, ht] at g1
    have g2 := List.all_eq_true.1 g1 k hk
    obtain ⟨e2, he1, he2⟩ := Array.any_eq_true'.1 g2
    simp only [Bool.and_eq_true, beq_iff_eq] at he2
    have g3 := hafter e2 he1 he2.1
    rw [he2.2, Array.getD_eq_getD_getElem?] at g3
    have hlk : listed[k]? = some true := by
     cases hg : listed[k]? with
     | none => rw [hg] at g3; simp at g3
     | some b => rw [hg] at g3; simp at g3; rw [g3]
    have := hcl k o' hlk (by simpa using ho') e he hb
    rw [heq, Array.getD_eq_getD_getElem?, hun] at this
    simp at this
   have hF : ∀ c, cV oj.op = some c -> gq H oj = false -> lm H oj = false -> (j, true) ∈ h.pre -> (aO H ops.toList h.pre || quietAt H ops.toList h.pre i) = false := by
    intro c hcc hpu hrd hmj
    rw [Bool.eq_false_iff]
    intro ht
    rw [mX (all := ops.toList) hmj (by simpa using hoj) hcc hpu, Bool.false_or] at ht
    unfold quietAt at ht
    have g := List.all_eq_true.1 ht (j, true) hmj
    have hoj' : ops.toList[j]? = some oj := by simpa using hoj
    simp only [hoj', hcc, hpu, hrd, Bool.not_true, Bool.false_or, Option.isNone_some, Bool.or_eq_true] at g
    rcases g with g | g
    ·exact kE hcl hr g hjun
    refine kE hcl hj g ?_
    rw [Array.getD_eq_getD_getElem?, hun]; rfl
   have hG : jA oj.op = true -> (j, true) ∈ h.pre -> rN oj = true ∨ iG oi oj = true := by
    intro hst hmj
    unfold fO at hcst
    have g1 := List.all_eq_true.1 hcst (j, true) hmj
    simp only [hoj, hst, Bool.not_true, Bool.false_or, Bool.and_eq_true] at g1
    have g2 := List.all_eq_true.1 g1.2 (i, false) hm
    simp only [hi, Bool.false_or, Bool.or_eq_true] at g2
    rcases g2 with ((g | g) | g) | g
    ·exact .inl g
    ·exact .inr g
    ·exact (kE hcl hr g hjun).elim
    refine (kE hcl hj g ?_).elim
    rw [Array.getD_eq_getD_getElem?, hun]; rfl
   have h2 := Qa hcs hi hm hoj (hfree j oj hoj hji hjun hnot) hntk hF hG hy h1
   have hfree' : ∀ k ok, ops[k]? = some ok -> k ≠ i -> (bK listed j).getD k true = false -> (∀ e ∈ ok.after, Region.binds .any e = true -> e.on ≠ i) -> oi.apart ops ok = true := fun k ok hk hki hun' hno => by
    refine hfree k ok hk hki ?_ hno
    by_cases hjk : j = k
    ·subst hjk; exact hjun
    unfold bK at hun'; rw [getD_set_ne true hjk] at hun'; exact hun'
   refine MV (fun s' h3 => ih (bK listed j) s' (by simpa [bK] using hsz) (hcl.step hj) hfree' (ready_mono hr (Ne.symm hji)) h3.1 ?_) h2
   have e : bK (bK listed j) i = bK (bK listed i) j := by unfold bK; rw [Array.setIfInBounds_comm _ _ hji]
   rw [e]
   exact h3.2
theorem kJ : ∀ (r : List (Nat × Bool)) (l : Array Bool) (i : Nat), l[i]? = some true -> (dI r l)[i]? = some true
 | [], _, _, h => h
 |(j, _) :: r, l, i, h => by
  apply kJ r
  unfold bK
  by_cases hj : j = i
  ·subst hj
   have hl : j < l.size := (Array.getElem?_eq_some_iff.1 h).1
   simp [hl]
  rw [Array.getElem?_setIfInBounds_ne hj]; exact h
/-- The chosen order stands for all. -/
theorem oG {ops : Array Oper} {h : az} (hcs : dA ops h = true) (hca : mP ops h = true) (hcst : fO ops h = true) {T : aa -> Prop} {p : Array Bool} (hlast : jF ops h p h.pre = true) :
  ∀ (r : List (Nat × Bool)) (listed : Array Bool) (s : aa) (fuel : Nat), (∀ x ∈ r, x ∈ h.pre) -> listed.size = ops.size -> fX ops listed -> p = dI r listed -> mO ops r listed = true -> r.length <= fuel ->
   kX (aB P G) E G H h.tk (aO H ops.toList h.pre) (quietAt H ops.toList h.pre) ops.toList T r s -> oH P E G H ops h p T fuel listed s
 | [], listed, s, fuel, _, _, _, hp, _, _, h => by
  cases fuel with
  | zero => exact ⟨hp.symm, h⟩
  | succ fuel => exact .inl ⟨hp.symm, h⟩
 |(i, lone) :: r, listed, s, 0, _, _, _, _, _, hf, _ => by simp at hf
 |(i, lone) :: r, listed, s, fuel + 1, hsub, hsz, hcl, hp, hc, hf, hh => by
  have hm := hsub (i, lone) (by simp)
  simp only [mO, Bool.and_eq_true] at hc
  obtain ⟨hc1, hc2⟩ := hc
  have hrd0 : i ∈ Region.ready .any ops listed := by
   cases lone
   ·simp at hc1; exact hc1.1
   simp at hc1; rw [hc1]; simp
  simp only [kX, hO] at hh
  have hsz' : (bK listed i).size = ops.size := by simpa [bK] using hsz
  have hp' : p = dI r (bK listed i) := hp
  have hrec : ∀ s', kX (aB P G) E G H h.tk (aO H ops.toList h.pre) (quietAt H ops.toList h.pre) ops.toList T r s' -> oH P E G H ops h p T fuel (bK listed i) s' := fun s' h' =>
   oG hcs hca hcst hlast r (bK listed i) s' fuel (fun x hx => hsub x (by simp [hx])) hsz' (hcl.step hrd0) hp' hc2 (by simp at hf; omega) h'
  split at hh
  ·exact hh.elim
  rename_i o ho
  have ho' : ops[i]? = some o := by simpa using ho
  have hlt : i < listed.size := by rw [hsz]; exact (Array.getElem?_eq_some_iff.1 ho').1
  have hpi : p[i]? = some true := by
   rw [hp']
   apply kJ
   simp [bK, hlt]
  cases lone
  ·simp only [Bool.false_eq_true, if_false, Bool.and_eq_true] at hh hc1
   split at hh
   ·rename_i a ha
    refine vt hcs hca hcst ho' hm ?_ hpi fuel listed s hsz hcl (Region.free_spec ho' hc1.2) (by simpa using hc1.1) ha (hrec _ hh)
    have : ∀ (q : List (Nat × Bool)), (i, false) ∈ q -> jF ops h p q = true -> (waited ops p i || Region.ready .any ops (p.setIfInBounds i false) == [i]) = true ∨ mB ops h p i = true := by
     intro q
     induction q with
     | nil => intro hq; simp at hq
     | cons x q ih =>
      intro hq hcl
      obtain ⟨k, l⟩ := x
      simp only [jF, Bool.and_eq_true, Bool.or_eq_true] at hcl
      rcases List.mem_cons.1 hq with e | hq
      ·simp at e
       obtain ⟨rfl, rfl⟩ := e
       rcases hcl.1 with (hl | hl) | hl
       ·simp at hl
       ·exact .inl (by rw [Bool.or_eq_true]; exact hl)
       exact .inr hl
      exact ih hq hcl.2
    exact this h.pre hm hlast
   exact hh.elim
  simp only [if_true] at hh hc1
  have hrd : Region.ready .any ops listed = [i] := by simpa using hc1
  have hun := cG (i := i) (by rw [hrd]; simp) hsz
  refine .inr (.inl ⟨fun e => by rw [e, hpi] at hun; simp at hun, by rw [hrd]; simp, fun j hj => ?_⟩)
  rw [hrd] at hj
  simp at hj
  subst hj
  exact ⟨true, o, hm, ho', by simp only [if_true]; exact nH hrec hh⟩
theorem rk : ∀ {r : List (Nat × Bool)} {x : Nat × Bool}, x ∈ bL r -> x ∈ r /\ x.2 = false
 | [], _, h => by simp [bL] at h
 |(i, true) :: r, _, h => by simp [bL] at h
 |(i, false) :: r, x, h => by
  simp only [bL] at h
  rcases List.mem_cons.1 h with rfl | h
  ·simp
  obtain ⟨h1, h2⟩ := rk h; exact ⟨by simp [h1], h2⟩
/-- The quiet ones first. -/
theorem oF {ops : Array Oper} {h : az} (hcs : dA ops h = true) (hca : mP ops h = true) (hcst : fO ops h = true) {T K : aa -> Prop} {p : Array Bool} (hlast : jF ops h p h.pre = true) (hall : ∀ x ∈ h.pre, p[x.1]? = some true) (fuel : Nat) :
  ∀ (r : List (Nat × Bool)) (listed : Array Bool) (s : aa), (∀ x ∈ r, x ∈ h.pre /\ x.2 = false) -> listed.size = ops.size -> fX ops listed -> mO ops r listed = true ->
   (∀ s', K s' -> oH P E G H ops h p T fuel (dI r listed) s') ->
   kX (aB P G) E G H h.tk (aO H ops.toList h.pre) (quietAt H ops.toList h.pre) ops.toList K r s -> oH P E G H ops h p T (r.length + fuel) listed s
 | [], listed, s, _, _, _, _, hK, h => by
  rw [List.length_nil, Nat.zero_add]
  exact hK s h
 |(i, true) :: r, listed, s, hsub, _, _, _, _, _ => by
  have := (hsub (i, true) (by simp)).2
  simp at this
 |(i, false) :: r, listed, s, hsub, hsz, hcl, hc, hK, hh => by
  obtain ⟨hm, _⟩ := hsub (i, false) (by simp)
  simp only [mO, Bool.and_eq_true] at hc
  obtain ⟨hc1, hc2⟩ := hc
  simp only [Bool.false_eq_true, if_false, Bool.and_eq_true] at hc1
  have hrd0 : i ∈ Region.ready .any ops listed := by simpa using hc1.1
  simp only [kX, hO] at hh
  have hsz' : (bK listed i).size = ops.size := by simpa [bK] using hsz
  split at hh
  ·exact hh.elim
  rename_i o ho
  have ho' : ops[i]? = some o := by simpa using ho
  simp only [Bool.false_eq_true, if_false] at hh
  split at hh
  ·rename_i a ha
   have hrec := oF hcs hca hcst hlast hall fuel r (bK listed i) _ (fun x hx => hsub x (by simp [hx])) hsz' (hcl.step hrd0) hc2 hK hh
   have e : ((i, false) :: r).length + fuel = (r.length + fuel) + 1 := by simp; omega
   rw [e]
   refine vt hcs hca hcst ho' hm ?_ (hall _ hm) (r.length + fuel) listed s hsz hcl (Region.free_spec ho' hc1.2) hrd0 ha hrec
   have : ∀ (q : List (Nat × Bool)), (i, false) ∈ q -> jF ops h p q = true -> (waited ops p i || Region.ready .any ops (p.setIfInBounds i false) == [i]) = true ∨ mB ops h p i = true := by
    intro q
    induction q with
    | nil => intro hq; simp at hq
    | cons x q ih =>
     intro hq hcl
     obtain ⟨k, l⟩ := x
     simp only [jF, Bool.and_eq_true, Bool.or_eq_true] at hcl
     rcases List.mem_cons.1 hq with e | hq
     ·simp at e
      obtain ⟨rfl, rfl⟩ := e
      rcases hcl.1 with (hl | hl) | hl
      ·simp at hl
      ·exact .inl (by rw [Bool.or_eq_true]; exact hl)
      exact .inr hl
     exact ih hq hcl.2
   exact this h.pre hm hlast
  exact hh.elim
/-- Those that come up alone, in each order. -/
theorem pX {ops : Array Oper} {h : az} {T : aa -> Prop} {p : Array Bool} : ∀ (m : Nat) (listed : Array Bool) (s : aa),
  ud (aB P G) E G H h ops.toList p T m listed s -> oH P E G H ops h p T m listed s
 | 0, listed, s, hh => hh
 | m + 1, listed, s, hh => by
  simp only [ud, Array.toArray_toList] at hh
  obtain ⟨h1, h2, h3⟩ := hh
  refine .inr (.inl ⟨h1, h2, fun i hi => ?_⟩)
  obtain ⟨hm, o, ho, hop⟩ := h3 i hi
  refine ⟨true, o, hm, by simpa using ho, ?_⟩
  rw [if_pos rfl]
  exact nH (fun s' h' => pX m _ s' h') hop
end
end Go.Tp

namespace Go.Tp
section
variable {P : Program} {E : bq} {G : bE} {H : Hints} {D : List Deferred}
/-- The value of an operation that goes ahead. -/
theorem Pd (hE : E.Ok P) {o : Oper} {s : aa} {out : Out} (hop : iR E false o.op (aJ G s none 0 (opsL o.op)) (bd s o.op (aJ G s none 0 (opsL o.op))) = some out) (hk : out.eff = .keep)
  {w : World} {R : Own} {N : Name -> Option Nat} {act : Act} {bsT bsL bsH bsF : List Nat} (hr : cR G w R N act.tmps.toList s undef .undef [] bsT bsL bsH bsF) :
  ∃ cv w' R' bsV, Su P w act.eval o cv w' /\ ak w' R' N out.val cv bsV /\ uu w [] bsV /\ bz w R w' R' (bsT ++ (bsL ++ (bsH ++ bsF))) := by
 have ha := jO hr.tmps hr.glob none 0 (opsL o.op) (by simp)
 generalize hvals : aJ G s none 0 (opsL o.op) = vals at hop ha
 have hnd : (bsT ++ (bsL ++ (bsH ++ bsF))).Nodup := by simpa using hr.nodup
 cases hlo : bd s o.op vals with
 | none =>
  rw [hlo] at hop
  have hlk : dO w R N o.op vals none none := by
   unfold dO
   split
   ·exact ⟨rfl, rfl⟩
   exact .inl ⟨rfl, rfl⟩
  obtain ⟨cv, w', R', hran, hkeep, hout⟩ := lX (rest := bsT ++ (bsL ++ (bsH ++ bsF))) hE hop ha (fun _ => rfl) hlk (by simpa [rA] using hnd) (fun _ => rfl)
  rw [hk] at hout
  obtain ⟨bsV, hv, hf, _, _⟩ := hout
  exact ⟨cv, w', R', bsV, hran, hv, hf, hkeep⟩
 | some obj =>
  rw [hlo] at hop
  have hlk : ∃ b b1, dO w R N o.op vals (some obj) (some (b, b1)) /\ (b :: b1).Nodup := by
   unfold bd at hlo
   split at hlo
   ·rename_i n hn
    cases n with
    | loc i =>
     simp only [aa.obj] at hlo
     obtain ⟨pre, b, b1, post, e1, e2, e3, _⟩ := an.split hr.locs hlo
     refine ⟨b, b1, ?_, ?_⟩
     ·unfold dO; rw [hn]; exact .inr ⟨b, b1, obj, rfl, rfl, e2, e3⟩
     subst e1
     refine List.Nodup.sublist ?_ hnd
     refine List.Sublist.trans ?_ (List.sublist_append_right _ _)
     refine List.Sublist.trans ?_ (List.sublist_append_left _ _)
     exact (List.sublist_append_right _ _).trans (List.sublist_append_left _ _)
    | out k =>
     simp only [aa.obj] at hlo
     obtain ⟨pre, b, b1, post, e1, e2, e3, _⟩ := an.split hr.heap hlo
     have hno : cS obj = true := by
      cases obj with
      | cells cs => obtain ⟨vs, e, sp, hb, hrr, hR⟩ := e3; have := hrr.bW; rw [iq] at this; exact this
      | map es => rfl
     refine ⟨b, b1, ?_, ?_⟩
     ·unfold dO; rw [hn]; exact .inr ⟨b, b1, obj, rfl, rfl, by simpa [outs] using e2, e3.vO hno (fun _ => rfl)⟩
     subst e1
     refine List.Nodup.sublist ?_ hnd
     refine List.Sublist.trans ?_ (List.sublist_append_right _ _)
     refine List.Sublist.trans ?_ (List.sublist_append_right _ _)
     refine List.Sublist.trans ?_ (List.sublist_append_left _ _)
     exact (List.sublist_append_right _ _).trans (List.sublist_append_left _ _)
   simp at hlo
  obtain ⟨b, b1, hlk, hnd1⟩ := hlk
  obtain ⟨cv, w', R', hran, hkeep, hout⟩ := lX (rest := []) hE hop ha (fun _ => rfl) hlk (by simpa [rA] using hnd1) (fun _ => rfl)
  rw [hk] at hout
  obtain ⟨bsV, hv, hf, _, hsame⟩ := hout
  rcases hsame with h | ⟨rfl, rfl⟩
  ·simp at h
  exact ⟨cv, w', R', bsV, hran, hv, hf, bg _⟩
/-- The state behind a value that goes ahead. -/
theorem HD {s : aa} {w w' : World} {R R' : Own} {N : Name -> Option Nat} {act : Act} {bsT bsL bsH bsF bsV : List Nat} (bsY : List Nat) {a : ae} {cv : Value} (dst : Option Tmp) (hr : cR G w R N act.tmps.toList s undef .undef [] bsT bsL bsH bsF)
  (hv : ak w' R' N a cv bsV) (hf : uu w [] (bsV ++ bsY)) (hy : ∀ b ∈ bsY, b < w'.heap.size) (hk : bz w R w' R' (bsT ++ (bsL ++ (bsH ++ bsF)))) :
  ∃ bsT', cR G w' R' N (act.put dst cv).tmps.toList (s.put dst a) undef .undef [] bsT' bsL bsH (bsY ++ bsF) := by
 have hlt : ∀ b ∈ bsT ++ (bsL ++ (bsH ++ bsF)), b < w.heap.size := fun b hb => by
  simp at hb
  rcases hb with h | h | h | h
  ·exact hr.tmps.lt b h
  ·exact hr.locs.lt b h
  ·exact hr.heap.lt b h
  exact hr.frame b h
 have hnd0 : ((bsV ++ bsY) ++ (bsT ++ (bsL ++ (bsH ++ bsF)))).Nodup := eN (bsM := []) (by simpa using hr.nodup) hlt hf
 have hnd : (bsV ++ (bsT ++ (bsL ++ (bsH ++ (bsY ++ bsF))))).Nodup := by
  have hp : (bsV ++ (bsT ++ (bsL ++ (bsH ++ (bsY ++ bsF))))).Perm ((bsV ++ bsY) ++ (bsT ++ (bsL ++ (bsH ++ bsF)))) := by
   rw [List.perm_iff_count]; intro q; simp only [List.count_append]; omega
  exact hp.nodup_iff.2 hnd0
 obtain ⟨bsT', hp1, hp2⟩ := eX dst (hr.tmps.keep (hk.sub (by intro b hb; simp [hb]))) hv hnd
 obtain ⟨q1, q2, q3⟩ := cN s dst a
 exact ⟨bsT', aP _, by rw [(fM act dst cv).1]; exact hp1, by rw [q1]; exact hr.locs.keep (hk.sub (by intro b hb; simp [hb])), by rw [q2]; exact hr.heap.keep (hk.sub (by intro b hb; simp [hb])), by simpa using hp2, by rw [q3]; exact hr.next,
  fun g cs hg => (hr.glob g cs hg).step hk.step, fun b hb => by
   rcases List.mem_append.1 hb with h | h
   ·exact hy b h
   exact Nat.lt_of_lt_of_le (hr.frame b h) hk.step.size⟩
/-- The state in the midst of such a region. -/
structure zH (E : bq) (G : bE) (H : Hints) (ops : Array Oper) (h : az) (listed : Array Bool) (w : World) (R : Own) (N : Name -> Option Nat) (act : Act) (s : aa) (bsT bsL bsH bsX bsF : List Nat) : Prop where
 rel : cR G w R N act.tmps.toList s undef .undef [] bsT bsL bsH (bsX ++ bsF)
 nwf : ∀ i o t d ti, h.nw = some i -> listed[i]? = some true -> ops[i]? = some o -> o.op = .alloc t -> o.dst = some d -> o.guard = none -> E.ty t = some ti -> d < act.tmps.size ->
  ∃ b, b ∈ bsX /\ act.tmps[d]? = some (.pointer (some ⟨b, 0, none⟩)) /\ aQ w R N (.cells (bA (cd ti.zero))) b []
 tkf : ∀ i o T u t n off ob, i ∈ h.tk -> listed[i]? = some true -> ops[i]? = some o -> o.op = .load T (.tmp u) -> o.dst = some t -> o.guard = none -> bp s.tmps u = .ptr n off -> BP (aO H ops.toList h.pre) n = true -> s.obj n = some ob -> t < act.tmps.size ->
  ∃ b v, N n = some b /\ act.tmps[t]? = some v /\ (w.cell? ⟨b, off, none⟩ = some v ∨ ∃ vs, v = .agg vs)
theorem Cu {ops : Array Oper} {h : az} (hc : dA ops h = true) {i : Nat} (hi : i ∈ h.nw.toList ++ h.tk) {o : Oper} (ho : ops[i]? = some o) {T : TypeId} {u : Tmp} (hop : o.op = .load T (.tmp u)) : o.dst ≠ some u := by
 unfold dA at hc
 have h1 := List.all_eq_true.1 hc i hi
 rw [ho] at h1
 simp only [Bool.and_eq_true] at h1
 have h2 := h1.2.1
 rw [hop] at h2
 simpa using h2
theorem vp {act : Act} {dst : Option Tmp} {v : Value} {t : Nat} (h : dst ≠ some t) : (act.put dst v).tmps[t]? = act.tmps[t]? := by
 cases dst with
 | none => rfl
 | some d =>
  have hne : d ≠ t := fun e => h (by rw [e])
  simp [Act.put, Array.getElem?_setIfInBounds_ne hne]
theorem jG {act : Act} {dst : Option Tmp} {v : Value} : (act.put dst v).tmps.size = act.tmps.size := by
 cases dst <;> simp [Act.put]
theorem xb {listed : Array Bool} {i j : Nat} (h : (bK listed i)[j]? = some true) (hne : j ≠ i) : listed[j]? = some true := by
 unfold bK at h
 rwa [Array.getElem?_setIfInBounds_ne (Ne.symm hne)] at h
theorem AW {w w' : World} {b off : Nat} (h : w'.heap[b]? = w.heap[b]?) : w'.cell? ⟨b, off, none⟩ = w.cell? ⟨b, off, none⟩ := by
 simp [World.cell?, h]
/-- What is known of those that were listed before stays. -/
theorem zH.carry {ops : Array Oper} {h : az} {listed : Array Bool} {w w' : World} {R R' : Own} {N N' : Name -> Option Nat} {act : Act} {s s' : aa} {bsT bsL bsH bsX bsF : List Nat} (bsY : List Nat) {o : Oper} {cv : Value}
  (hp : zH E G H ops h listed w R N act s bsT bsL bsH bsX bsF)
  (hc : dA ops h = true) (hcl : fX ops listed) {i : Nat} {l : Bool} (hi : ops[i]? = some o) (hun : listed[i]? = some false) (hm : (i, l) ∈ h.pre) (hk : bz w R w' R' bsX) (hkL : ∀ n ob b, BP (aO H ops.toList h.pre) n = true -> s.obj n = some ob -> N n = some b -> w'.heap[b]? = w.heap[b]?) (hN : ∀ m c, N m = some c -> N' m = some c) (hlocs : ∀ n ob, BP (aO H ops.toList h.pre) n = true -> s'.obj n = some ob -> ∃ y, s.obj n = some y)
  (hT : ∀ t n off, BP (aO H ops.toList h.pre) n = true -> o.dst ≠ some t -> bp s'.tmps t = .ptr n off -> bp s.tmps t = .ptr n off) :
  (∀ j q t d ti, j ≠ i -> h.nw = some j -> (bK listed i)[j]? = some true -> ops[j]? = some q -> q.op = .alloc t -> q.dst = some d -> q.guard = none -> E.ty t = some ti -> d < (act.put o.dst cv).tmps.size ->
   ∃ b, b ∈ bsY ++ bsX /\ (act.put o.dst cv).tmps[d]? = some (.pointer (some ⟨b, 0, none⟩)) /\ aQ w' R' N' (.cells (bA (cd ti.zero))) b []) ∧
  (∀ j q T u t n off ob, j ≠ i -> j ∈ h.tk -> (bK listed i)[j]? = some true -> ops[j]? = some q -> q.op = .load T (.tmp u) -> q.dst = some t -> q.guard = none -> bp s'.tmps u = .ptr n off -> BP (aO H ops.toList h.pre) n = true -> s'.obj n = some ob ->
   t < (act.put o.dst cv).tmps.size -> ∃ b v, N' n = some b /\ (act.put o.dst cv).tmps[t]? = some v /\ (w'.cell? ⟨b, off, none⟩ = some v ∨ ∃ vs, v = .agg vs)) := by
 constructor
 ·intro j q t d ti hji hnw hl hq hop hd hg hty hlt
  obtain ⟨⟨d', hd', hne, _⟩, _⟩ := lq hc (i := j) (by simp [hnw]) hq hm (Ne.symm hji) hi
  rw [hd] at hd'
  simp at hd'
  subst hd'
  rw [jG] at hlt
  obtain ⟨b, h1, h2, h3⟩ := hp.nwf j q t d ti hnw (xb hl hji) hq hop hd hg hty hlt
  refine ⟨b, by simp [h1], by rw [vp hne]; exact h2, ?_⟩
  exact (h3.keep (hk.sub (by intro c hc; simp at hc; subst hc; simp [h1]))).ext hN
 intro j q T u t n off ob hji htk hl hq hop hd hg hu hok hob hlt
 obtain ⟨⟨d', hd', hne, _⟩, h4⟩ := lq hc (i := j) (by simp [htk]) hq hm (Ne.symm hji) hi
 rw [hd] at hd'
 simp at hd'
 subst hd'
 have hu1 : o.dst ≠ some u := by
  rcases h4 T u hop with hu1 | ⟨e, he, hb, hon⟩
  ·exact hu1
  exfalso
  have := hcl j q (xb hl hji) hq e he hb
  rw [hon, Array.getD_eq_getD_getElem?, hun] at this
  simp at this
 have hu2 := hT u n off hok hu1 hu
 rw [jG] at hlt
 obtain ⟨y, hob⟩ := hlocs _ _ hok hob
 obtain ⟨b, v, h1, h2, h3⟩ := hp.tkf j q T u t n off y htk (xb hl hji) hq hop hd hg hu2 hok hob hlt
 refine ⟨b, v, hN _ _ h1, by rw [vp hne]; exact h2, ?_⟩
 rcases h3 with h3 | h3
 ·left
  rw [AW (hkL _ _ b hok hob h1)]
  exact h3
 exact .inr h3
theorem tx {w w' : World} {R R' : Own} {N : Name -> Option Nat} {os : List (Name × aN)} {bsL bs : List Nat} (hl : an w R N os bsL) (hk : bz w R w' R' bs) (hs : ∀ b ∈ bsL, b ∈ bs) : ∀ n ob b, dM n os = some ob -> N n = some b -> w'.heap[b]? = w.heap[b]? := by
 intro n ob b hob hb
 obtain ⟨pre, b', b1, post, e1, e2, _, _⟩ := an.split hl hob
 rw [hb] at e2
 simp at e2
 subst e2
 exact (hk.same b (hs b (by rw [e1]; simp)) (hl.lt b (by rw [e1]; simp))).1
theorem nJ {w w' : World} {R R' : Own} {N : Name -> Option Nat} {s : aa} {bsL bsH bs : List Nat} (hl : an w R N s.locs bsL) (hh : an w R (outs N) s.heap bsH) (hk : bz w R w' R' bs) (hs : ∀ b ∈ bsL, b ∈ bs) (hs2 : ∀ b ∈ bsH, b ∈ bs) : ∀ n ob b, s.obj n = some ob -> N n = some b -> w'.heap[b]? = w.heap[b]? := by
 intro n ob b hob hb
 cases n with
 | loc i => exact tx hl hk hs _ _ _ hob hb
 | out k => exact tx hh hk hs2 _ _ _ hob hb
/-- The object that a name means. -/
theorem JF {w : World} {R : Own} {N : Name -> Option Nat} {s : aa} {bsL bsH : List Nat} (hl : an w R N s.locs bsL) (hh : an w R (outs N) s.heap bsH) {n : Name} {ob : aN} (h : s.obj n = some ob) :
  ∃ b b1, N n = some b /\ aQ w R N ob b b1 /\ (b ∈ bsL ∨ b ∈ bsH) := by
 cases n with
 | loc i =>
  obtain ⟨pre, b, b1, post, e1, e2, e3, _⟩ := an.split hl h
  exact ⟨b, b1, e2, e3, .inl (by rw [e1]; simp)⟩
 | out k =>
  obtain ⟨pre, b, b1, post, e1, e2, e3, _⟩ := an.split hh h
  have hno : cS ob = true := by
   cases ob with
   | cells cs => obtain ⟨vs, e, sp, hb, hrr, hR⟩ := e3; have := hrr.bW; rw [iq] at this; exact this
   | map es => rfl
  exact ⟨b, b1, by simpa [outs] using e2, e3.vO hno (fun _ => rfl), .inr (by rw [e1]; simp)⟩
theorem sR {a b : ae} {n : Name} {off : Nat} (h : cD a = cD b) (ha : a = .ptr n off) : b = .ptr n off := by
 subst ha
 cases b with
 | agg cs =>
  rcases iW (bi cs) with ⟨ds, h'⟩ | h' <;> simp [cD, h'] at h
 | _ => simp [cD] at h <;> simp [h]
/-- What a load reads is the cell. -/
theorem JP (hE : E.Ok P) {T : TypeId} {ti : TI} (hty : E.ty T = some ti) {w : World} {R : Own} {N : Name -> Option Nat} {b off : Nat} {b1 : List Nat} {cs : List ae} (hob : aQ w R N (.cells cs) b b1) {v : ae} (hv : loadCells ti off cs = some v)
  {ρ : Operand -> Value} {o : Oper} {x : Operand} (ho : o.op = .load T x) (hx : ρ x = .pointer (some ⟨b, off, none⟩)) {cv : Value} {w' : World} (hran : Su P w ρ o cv w') : w.cell? ⟨b, off, none⟩ = some cv ∨ ∃ vs, cv = .agg vs := by
 obtain ⟨vs, elem, sp, hblk, hr, _⟩ := hob
 replace hv := lk (ps := List.replicate sp .undef) hv
 generalize cs ++ List.replicate sp .undef = cs at hr hv
 obtain ⟨cv0, e1, e2, e3⟩ := lj hv hr
 obtain ⟨cv1, g1, g2⟩ := mf (N := N) (P := P) hE hty hblk hr hv
 have hrun : (execOp ρ o).run P w = .ok (.value cv1) w := by
  obtain ⟨dst, op, type, pos, after, guard⟩ := o
  simp only at ho
  subst ho
  rw [← hx] at g1
  exact bS g1
 have hcv : cv = cv1 := by
  rcases hran with h | ⟨h, _⟩
  ·rw [hrun] at h; simp at h; exact h.1.symm
  rw [hrun] at h; simp at h
 subst hcv
 cases ha : ti.isAgg with
 | true =>
  right
  unfold loadCells at hv
  rw [ha] at hv
  simp only [if_true] at hv
  split at hv
  ·simp at hv
   subst hv
   rcases iW (bi (eD ti.size (gg off cs))) with ⟨ds, h⟩ | h
   ·rw [h] at g2
    obtain ⟨us, e, _⟩ := (bY g2).2
    exact ⟨_, e⟩
   rw [h] at g2
   simp only [ak] at g2
   obtain ⟨us, e, _⟩ := g2
   exact ⟨_, e⟩
  simp at hv
 | false =>
  left
  have hg := e3 ha
  have hc : w.cell? ⟨b, off, none⟩ = some cv0 := by rw [cell_of_row w b off vs elem (0, 0) hblk]; simpa using hg
  have : (Instr.loadAt T (.pointer (some ⟨b, off, none⟩))).run P w = .ok cv0 w := by
   simp [Instr.loadAt, Instr.sureAddr, loadVar, hE.jJ hty, ha, hc]
  rw [this] at g1
  simp at g1
  rw [hc, g1]
/-- One operation that goes ahead, whenever it comes up. -/
theorem L8 (hE : E.Ok P) {ops : Array Oper} {h : az} (hc : dA ops h = true) {fh : Bool} {listed : Array Bool} {w : World} {R : Own} {N : Name -> Option Nat} {act : Act} {s : aa} {bsT bsL bsH bsX bsF : List Nat}
  (hp : zH E G H ops h listed w R N act s bsT bsL bsH bsX bsF) (hcl : fX ops listed) (hd : act.defers = D) {i : Nat} {o : Oper} (hi : ops[i]? = some o) (hun : listed[i]? = some false) (hm : (i, false) ∈ h.pre) {a : ae} (hq : eE E G fh ops.toList o s = some a)
  {Qx : Exit -> Act -> World -> Prop} {K : Act -> World -> Prop}
  (hK : ∀ cv w' R' bsT' bsX', zH E G H ops h (bK listed i) w' R' N (act.put o.dst cv) (s.put o.dst a) bsT' bsL bsH bsX' bsF -> bz w R w' R' bsF -> K (act.put o.dst cv) w') : wpOp P ops Qx i K act w := by
 have hlocs0 : (s.put o.dst a).locs = s.locs := (cN s o.dst a).1
 have hobj0 : ∀ n, (s.put o.dst a).obj n = s.obj n := fun n => kI
 have hlocs : ∀ n ob, BP (aO H ops.toList h.pre) n = true -> (s.put o.dst a).obj n = some ob -> ∃ y, s.obj n = some y := fun n ob _ h => ⟨ob, by rw [← hobj0]; exact h⟩
 have hT : ∀ t n off, BP (aO H ops.toList h.pre) n = true -> o.dst ≠ some t -> bp (s.put o.dst a).tmps t = .ptr n off -> bp s.tmps t = .ptr n off := fun t n off _ ht h => by rw [cH ht] at h; exact h
 unfold wpOp
 simp only [hi]
 unfold eE at hq
 split at hq
 ·simp at hq
 rename_i b hw
 rw [jr hp.rel.tmps hw]
 split at hq
 ·rename_i hb
  subst hb
  simp only [if_true]
  left
  split at hq
  ·
   rename_i hal
   split at hq
   ·rename_i out hop
    simp at hq
    subst hq
    have hop' : ∃ t, o.op = .alloc t := by
     unfold mC at hal
     split at hal
     ·exact ⟨_, by assumption⟩
     simp at hal
    obtain ⟨t, hot⟩ := hop'
    have hops : opsL o.op = [] := by rw [hot]; rfl
    have hnd : ([] ++ (rA none ++ (bsT ++ (bsL ++ (bsH ++ (bsX ++ bsF)))))).Nodup := by simpa [rA] using hp.rel.nodup
    obtain ⟨cv, w', R', hran, hkeep, hout⟩ := lX (ρ := act.eval) (w := w) (R := R) (N := N) (vals := []) (ob := none) (nm := none) (bsM := []) (rest := bsT ++ (bsL ++ (bsH ++ (bsX ++ bsF)))) hE hop (by rw [hops]; exact aV) (fun _ => rfl)
     (by unfold dO; rw [hot]; exact ⟨rfl, rfl⟩) hnd (fun _ => rfl)
    have hnew : ∃ ti, E.ty t = some ti /\ out.eff = .new (.cells (bA (cd ti.zero))) := by
     rw [hot] at hop
     simp only [iR, Ho] at hop
     split at hop
     ·rename_i ti hti
      split at hop
      ·simp at hop; exact ⟨ti, hti, by rw [← hop]⟩
      simp at hop
     simp at hop
    obtain ⟨ti, hti, heff⟩ := hnew
    rw [heff] at hout
    obtain ⟨_, b1', hobj, hb1, hsz, hcv⟩ := hout
    have hb1' : b1' = [] := List.eq_nil_iff_forall_not_mem.2 fun x hx => by have := hb1.2 x hx; simp at this
    subst hb1'
    simp only at hcv
    refine tj hran ?_
    obtain ⟨bsT', hr1⟩ := HD (a := .undef) (cv := cv) (bsV := []) [w.heap.size] o.dst hp.rel (aP _) ⟨by simp, fun b hb => .inr (by simp at hb; omega)⟩ (by intro b hb; simp at hb; subst hb; exact hsz) hkeep
    have hr2 : cR G w' R' N (act.put o.dst cv).tmps.toList (s.put o.dst .undef) undef .undef [] bsT' bsL bsH (([w.heap.size] ++ bsX) ++ bsF) := by
     simpa using hr1
    obtain ⟨c1, c2⟩ := hp.carry (cv := cv) [w.heap.size] hc hcl hi hun hm (hkeep.sub (by intro x hx; simp [hx])) (fun n ob b _ => nJ hp.rel.locs hp.rel.heap hkeep (by intro x hx; simp [hx]) (by intro x hx; simp [hx]) n ob b) (fun _ _ h => h) hlocs hT
    refine hK cv w' R' bsT' ([w.heap.size] ++ bsX) ⟨hr2, ?_, ?_⟩ (hkeep.sub (by intro x hx; simp [hx]))
    ·intro j q t' d ti' hnw hl hqo hop2 hdd hg hty hlt2
     by_cases hji : j = i
     ·subst hji
      rw [hi] at hqo
      simp at hqo
      subst hqo
      rw [hot] at hop2
      simp at hop2
      subst hop2
      rw [hti] at hty
      simp at hty
      subst hty
      refine ⟨w.heap.size, by simp, ?_, hobj⟩
      rw [jG] at hlt2
      rw [hdd, hcv]
      simp [Act.put, hlt2]
     exact c1 j q t' d ti' hji hnw hl hqo hop2 hdd hg hty hlt2
    intro j q T u t' n off ob htk hl hqo hop2 hdd hg hu hok hob hlt2
    by_cases hji : j = i
    ·subst hji
     rw [hi] at hqo
     simp at hqo
     subst hqo
     rw [hot] at hop2
     simp at hop2
    exact c2 j q T u t' n off ob hji htk hl hqo hop2 hdd hg hu hok hob hlt2
   simp at hq
  -- a value
  rename_i hal
  split at hq
  ·simp at hq
  split at hq
  ·split at hq
   ·rename_i out hop
    split at hq
    ·rename_i heff
     simp at hq
     subst hq
     obtain ⟨cv, w', R', bsV, hran, hv, hf, hkeep⟩ := Pd hE hop heff hp.rel
     refine tj hran ?_
     obtain ⟨bsT', hr2⟩ := HD [] o.dst hp.rel hv (by simpa using hf) (by simp) hkeep
     rw [List.nil_append] at hr2
     obtain ⟨c1, c2⟩ := hp.carry (cv := cv) [] hc hcl hi hun hm (hkeep.sub (by intro x hx; simp [hx])) (fun n ob b _ => nJ hp.rel.locs hp.rel.heap hkeep (by intro x hx; simp [hx]) (by intro x hx; simp [hx]) n ob b) (fun _ _ h => h) hlocs hT
     refine hK cv w' R' bsT' bsX ⟨hr2, ?_, ?_⟩ (hkeep.sub (by intro x hx; simp [hx]))
     ·intro j q t' d ti' hnw hl hqo hop2 hdd hg hty hlt2
      by_cases hji : j = i
      ·subst hji
       rw [hi] at hqo
       simp at hqo
       subst hqo
       rw [hop2] at hal
       simp [mC] at hal
      simpa using c1 j q t' d ti' hji hnw hl hqo hop2 hdd hg hty hlt2
     intro j q T u t' n off ob htk hl hqo hop2 hdd hg hu hok hob hlt2
     by_cases hji : j = i
     ·subst hji
      rw [hi] at hqo
      simp at hqo
      subst hqo
      have hut : o.dst ≠ some u := Cu hc (by simp [htk]) hi hop2
      rw [cH hut] at hu
      rw [hobj0] at hob
      have hvals : aJ G s none 0 (opsL o.op) = [.ptr n off] := by
       rw [hop2]
       simp [opsL, aJ, dZ, hu, cD]
      rw [hvals] at hop
      have hlo : bd s o.op [.ptr n off] = some ob := by
       unfold bd
       rw [hop2]
       simp [looks, hob]
      rw [hlo, hop2] at hop
      simp only [iR, ki] at hop
      split at hop
      ·rename_i ti cs hty hcs
       simp at hcs
       subst hcs
       simp only [Bool.false_and, Bool.false_eq_true, if_false] at hop
       cases hld : loadCells ti off cs with
       | none => rw [hld] at hop; simp [tw] at hop
       | some v =>
        obtain ⟨b', b1, e2, e3, e1⟩ := JF hp.rel.locs hp.rel.heap hob
        have hget : s.tmps[u]? = some (.ptr n off) := by
         unfold bp at hu
         cases hs : s.tmps[u]? with
         | none => rw [hs] at hu; simp at hu
         | some v => rw [hs] at hu; simp at hu; rw [hu]
        obtain ⟨u1, bs', g1, g2, _⟩ := dQ hp.rel.tmps hget
        simp only [ak] at g2
        obtain ⟨_, b2, hb2, rfl⟩ := g2
        rw [e2] at hb2
        simp at hb2
        subst hb2
        have hρ : act.eval (.tmp u) = .pointer (some ⟨b', off, none⟩) := by
         simp at g1
         simp [Act.eval, g1]
        have hcell := JP hE hty e3 hld hop2 hρ hran
        refine ⟨b', cv, e2, ?_, ?_⟩
        ·rw [jG] at hlt2
         rw [hdd]
         simp [Act.put, hlt2]
        rcases hcell with hcell | hcell
        ·left
         have hsame := nJ hp.rel.locs hp.rel.heap hkeep (by intro x hx; simp [hx]) (by intro x hx; simp [hx]) _ _ _ hob e2
         rw [AW hsame]
         exact hcell
        exact .inr hcell
      simp at hop
     exact c2 j q T u t' n off ob hji htk hl hqo hop2 hdd hg hu hok hob hlt2
    simp at hq
   simp at hq
  simp at hq
 -- not wanted
 rename_i hb
 simp at hq
 subst hq
 rw [if_neg hb]
 obtain ⟨bsT', hr2⟩ := mb hp.rel o.dst
 obtain ⟨c1, c2⟩ := hp.carry (cv := undef) [] hc hcl hi hun hm (bg _) (fun _ _ _ _ _ _ => rfl) (fun _ _ h => h) hlocs hT
 have hng : o.guard ≠ none := by
  intro hg
  unfold dj at hw
  rw [hg] at hw
  simp at hw
  exact hb hw
 refine hK undef w R bsT' bsX ⟨hr2, ?_, ?_⟩ (bg _)
 ·intro j q t' d ti' hnw hl hqo hop2 hdd hg hty hlt2
  by_cases hji : j = i
  ·subst hji
   rw [hi] at hqo
   simp at hqo
   subst hqo
   exact absurd hg hng
  simpa using c1 j q t' d ti' hji hnw hl hqo hop2 hdd hg hty hlt2
 intro j q T u t' n off ob htk hl hqo hop2 hdd hg hu hok hob hlt2
 by_cases hji : j = i
 ·subst hji
  rw [hi] at hqo
  simp at hqo
  subst hqo
  exact absurd hg hng
 exact c2 j q T u t' n off ob hji htk hl hqo hop2 hdd hg hu hok hob hlt2
end
end Go.Tp

namespace Go.Tp
section
variable {P : Program} {E : bq} {G : bE} {H : Hints} {D : List Deferred}
theorem zm (hE : E.Ok P) {c : Call} {s s2 : aa} {f : FuncId} {args : List ae} (h : dv E G H c s = some (f, args, s2)) {w : World} {R : Own} {N : Name -> Option Nat} {act : Act} {bsT bsL bsH bsF : List Nat}
  (hr : cR G w R N act.tmps.toList s undef .undef [] bsT bsL bsH bsF) (o : Oper) (ho : o.op = .call c) :
  ∃ cargs : List Value, (execOp act.eval o).run P w = .ok (.enter f cargs.toArray) w /\ bF args = true /\ ∃ bsA bsT', cR G w R N act.tmps.toList s2 (.tuple cargs.toArray) (.tup args) bsA bsT' bsL bsH bsF := by
 obtain ⟨callee, cargs0, argTypes⟩ := c
 cases callee with
 | builtin _ => simp [dv] at h
 | invoke _ _ => simp [dv] at h
 | value fo =>
  simp only [dv] at h
  obtain ⟨bf, hfv⟩ := om hr.tmps hr.glob fo
  generalize haf : dZ G s fo = af at h hfv
  split at h
  ·rename_i g first captured
   simp only [ak] at hfv
   obtain ⟨_, vf, uf, ef, hfirst, hcap⟩ := hfv
   split at h
   ·rename_i hfn
    obtain ⟨fn, hf1, hf2, hf3⟩ := hE.fn g hfn
    have hnd0 : (bsT ++ (bsL ++ (bsH ++ bsF))).Nodup := by simpa using hr.nodup
    have hops : ∃ (vs : List ae) (s1 : aa) (bsM bsT' : List Nat), (if H.moves g = true then cy G s cargs0.toList else (aJ G s none 0 cargs0.toList, s)) = (vs, s1) ∧
      aj w R N vs (cargs0.toList.map act.eval) bsM /\ aj w R N s1.tmps act.tmps.toList bsT' /\ (bsM ++ (bsT' ++ (bsL ++ (bsH ++ bsF)))).Nodup /\ s1.locs = s.locs /\ s1.heap = s.heap /\ s1.next = s.next := by
     split
     ·obtain ⟨bsM, bsT', k1, k2, k3⟩ := jP hr.glob cargs0.toList hr.tmps hnd0
      obtain ⟨q1, q2, q3⟩ := fu G cargs0.toList s
      exact ⟨_, _, bsM, bsT', rfl, k1, k2, k3, q1, q2, q3⟩
     exact ⟨_, _, [], bsT, rfl, jO hr.tmps hr.glob none 0 _ (by simp), hr.tmps, by simpa using hnd0, rfl, rfl, rfl⟩
    obtain ⟨vs, s1, bsM, bsT', hpair, hvs, ht1, hnd1, q1, q2, q3⟩ := hops
    rw [hpair] at h
    simp only at h
    split at h
    ·rename_i hno
     simp only [Option.some.injEq, Prod.mk.injEq] at h
     obtain ⟨rfl, rfl, rfl⟩ := h
     have hall : aj w R N (first ++ vs ++ captured) (vf ++ cargs0.toList.map act.eval ++ uf) bsM := by
      have := cA (cA hfirst hvs) hcap
      simpa using this
     refine ⟨vf ++ cargs0.toList.map act.eval ++ uf, ?_, hno, bsM, bsT', ⟨by simp only [ak]; exact ⟨_, rfl, hall⟩, ht1, by rw [q1]; exact hr.locs, by rw [q2]; exact hr.heap, hnd1, by rw [q3]; exact hr.next, hr.glob, hr.frame⟩⟩
     have hbody : fn.body.isNone = false := by cases hb : fn.body <;> simp_all
     have hb2 : ¬ fn.body = none := by intro hb; simp [hb] at hbody
     have hn2 : ¬ fn.name = "runtime.NumGoroutine" := by simpa using hf3
     simp [execOp, ho, resolve, ef, Deferred.ofValue, invoke, callFunc, hf1, hn2, hb2]
    simp at h
   simp at h
  simp at h
theorem ue : ∀ {os : List (Name × aN)} {n m : Name} {o x : aN}, dM m (hZ n o os) = some x -> ∃ y, dM m os = some y
 | [], _, _, _, _, h => by simp [hZ, dM] at h
 |(k, y) :: os, n, m, o, x, h => by
  simp only [hZ] at h
  split at h
  ·simp only [dM] at h ⊢
   split
   ·exact ⟨_, rfl⟩
   rename_i hk
   rw [if_neg hk] at h
   exact ⟨x, h⟩
  simp only [dM] at h ⊢
  split
  ·exact ⟨_, rfl⟩
  rename_i hk
  rw [if_neg hk] at h
  exact ue h
theorem tH {l : List ae} {t : Nat} {v : ae} (h : bp l t = v) (hv : v ≠ .undef) : l[t]? = some v := by
 unfold bp at h
 split at h
 ·rename_i x hx; rw [hx, h]
 exact absurd h.symm hv
theorem DD {s : aa} {n m : Name} {o x : aN} (h : (s.ju n o).obj m = some x) : ∃ y, s.obj m = some y := by
 cases n <;> cases m <;> simp only [aa.ju, aa.obj] at h ⊢
 ·exact ue h
 ·exact ⟨_, h⟩
 ·exact ⟨_, h⟩
 exact ue h
/-- What a cell owns goes over to a slot. -/
theorem qY {fh : Bool} {ops : Array Oper} {w : World} {R : Own} {N : Name -> Option Nat} {act : Act} {bsF : List Nat} :
  ∀ (tk : List Nat) {s s' : aa} {bsT bsL bsH : List Nat}, dg fh ops.toList tk s = some s' -> cR G w R N act.tmps.toList s undef .undef [] bsT bsL bsH bsF ->
   (∀ i o T u t n off ob, i ∈ tk -> ops[i]? = some o -> o.op = .load T (.tmp u) -> o.dst = some t -> o.guard = none -> bp s.tmps u = .ptr n off -> BP fh n = true -> s.obj n = some ob -> t < act.tmps.size ->
    ∃ b v, N n = some b /\ act.tmps[t]? = some v /\ (w.cell? ⟨b, off, none⟩ = some v ∨ ∃ vs, v = .agg vs)) ->
   ∃ bsT' bsL' bsH', cR G w R N act.tmps.toList s' undef .undef [] bsT' bsL' bsH' bsF
 | [], s, s', bsT, bsL, bsH, h, hr, _ => by simp [dg] at h; subst h; exact ⟨bsT, bsL, bsH, hr⟩
 | i :: r, s, s', bsT, bsL, bsH, h, hr, hf => by
  obtain ⟨o, T, u, t, n, off, cs, es, es2, ho, hop, hd, hg, hu, hok, hob, hes, ht, hrest⟩ := fx h
  have ho' : ops[i]? = some o := by simpa using ho
  have hsz : act.tmps.size = s.tmps.length := by have := hr.tmps.length; simpa using this
  have htg := tH ht (by simp)
  have htl : t < act.tmps.size := by rw [hsz]; exact (List.getElem?_eq_some_iff.1 htg).1
  obtain ⟨b0, v, hb0, hv, hcell⟩ := hf i o T u t n off (.cells cs) (by simp) ho' hop hd hg hu hok hob htl
  obtain ⟨v', bs', g1, g2, _⟩ := dQ hr.tmps htg
  have hvv : v' = v := by
   have : act.tmps.toList[t]? = some v := by simpa using hv
   rw [this] at g1; simp at g1; exact g1.symm
  subst hvv
  have hsame : act.tmps.toList.set t v' = act.tmps.toList := by
   apply List.ext_getElem?
   intro j
   rw [List.getElem?_set]
   split
   ·rename_i hj; subst hj; split
    ·exact g1.symm
    rename_i hl; rw [List.getElem?_eq_none (by omega)]
   rfl
  have k2 : dd off [ae.dat (.slice es)] cs = cs.set off (.dat (.slice es)) := by
   apply List.ext_getElem?
   intro j
   rw [iV, List.getElem?_set]
   by_cases hj : off = j
   ·subst hj
    by_cases hl : off < cs.length
    ·rw [if_pos ⟨Nat.le_refl _, by simp, hl⟩, if_pos rfl, if_pos hl]; simp
    rw [if_neg (by omega), if_pos rfl, if_neg hl]; exact List.getElem?_eq_none (by omega)
   rw [if_neg (by simp; omega), if_neg hj]
  -- the object's cells, ownership gone
  have hcells : ∀ (M : Name -> Option Nat) (b : Nat) (b1 : List Nat), N n = some b -> aQ w R M (.cells cs) b b1 -> ∃ bt b1', hY w R v' es bt /\ aQ w R M (.cells (dd off [.dat (.slice es)] cs)) b b1' /\ b1.Perm (bt ++ b1') := by
   intro M b b1 hN hobj
   rw [hN] at hb0
   simp at hb0
   subst hb0
   obtain ⟨vs, elem, sp, hblk, hrr, hR⟩ := hobj
   obtain ⟨pre2, bt, post2, cv, f1, f2, f3, f4⟩ := aj.split hrr (wi hes)
   have hcv : w.cell? ⟨b, off, none⟩ = some cv := by rw [cell_of_row w b off vs elem (0, 0) hblk]; simpa using f2
   have hvc : v' = cv := by
    rcases hcell with hcell | ⟨us, hus⟩
    ·rw [hcv] at hcell; simp at hcell; exact hcell.symm
    subst hus
    have := (dq g2).2
    cases this
   subst hvc
   have hset := f4 w R (.dat (.slice es)) v' [] (bg _) (bV (d := .slice es) (bX f3).rep)
   have k1 : vs.toList.set off v' = vs.toList := by
    apply List.ext_getElem?
    intro j
    rw [List.getElem?_set]
    split
    ·rename_i hj; subst hj; split
     ·exact f2.symm
     rename_i hl; rw [List.getElem?_eq_none (by omega)]
    rfl
   rw [k1, List.set_append_left (h := (List.getElem?_eq_some_iff.1 hes).1)] at hset
   refine ⟨bt, pre2 ++ [] ++ post2, bX f3, ⟨vs, elem, sp, hblk, by rw [k2]; exact hset, hR.1, fun hb => hR.2 (vl hes hb)⟩, ?_⟩
   subst f1
   rw [List.perm_iff_count]; intro q; simp only [List.count_append, List.count_nil]; omega
  have hstate : ∃ bt bsL1 bsH1, hY w R v' es bt /\ an w R N (s.ju n (.cells (dd off [.dat (.slice es)] cs))).locs bsL1 /\ an w R (outs N) (s.ju n (.cells (dd off [.dat (.slice es)] cs))).heap bsH1 /\ (bt ++ (bsT ++ (bsL1 ++ (bsH1 ++ bsF)))).Nodup := by
   have h0 : (bsT ++ (bsL ++ (bsH ++ bsF))).Nodup := by simpa using hr.nodup
   cases n with
   | loc k =>
    obtain ⟨pre, b, b1, post, e1, e2, e3, e4⟩ := an.split hr.locs hob
    obtain ⟨bt, b1', q1, q2, q3⟩ := hcells N b b1 e2 e3
    refine ⟨bt, _, bsH, q1, e4 w R _ b1' (bg _) q2, hr.heap, ?_⟩
    subst e1
    have hp : (bt ++ (bsT ++ ((pre ++ (b :: b1') ++ post) ++ (bsH ++ bsF)))).Perm (bsT ++ ((pre ++ (b :: b1) ++ post) ++ (bsH ++ bsF))) := by
     have q3' := List.perm_iff_count.1 q3
     rw [List.perm_iff_count]; intro q; have := q3' q; simp only [List.count_append, List.count_cons] at this ⊢; omega
    exact hp.nodup_iff.2 h0
   | out k =>
    obtain ⟨pre, b, b1, post, e1, e2, e3, e4⟩ := an.split hr.heap hob
    obtain ⟨bt, b1', q1, q2, q3⟩ := hcells (outs N) b b1 (by simpa [outs] using e2) e3
    refine ⟨bt, bsL, _, q1, hr.locs, e4 w R _ b1' (bg _) q2, ?_⟩
    subst e1
    have hp : (bt ++ (bsT ++ (bsL ++ ((pre ++ (b :: b1') ++ post) ++ bsF)))).Perm (bsT ++ (bsL ++ ((pre ++ (b :: b1) ++ post) ++ bsF))) := by
     have q3' := List.perm_iff_count.1 q3
     rw [List.perm_iff_count]; intro q; have := q3' q; simp only [List.count_append, List.count_cons] at this ⊢; omega
    exact hp.nodup_iff.2 h0
  obtain ⟨bt, bsL1, bsH1, q1, q2, q3, q4⟩ := hstate
  obtain ⟨bsT2, p1, p2⟩ := lG (a := .own es) t hr.tmps (by simpa only [ak] using q1) q4
  rw [hsame] at p1
  have e5 : (({ s with tmps := s.tmps.set t (.own es) } : aa).ju n (.cells (dd off [.dat (.slice es)] cs))) = { s.ju n (.cells (dd off [.dat (.slice es)] cs)) with tmps := s.tmps.set t (.own es) } := by cases n <;> rfl
  rw [e5] at hrest
  refine qY r hrest ⟨aP _, p1, q2, q3, by simpa using p2, by simpa only [Al] using hr.next, hr.glob, hr.frame⟩ ?_
  intro i' o' T' u' t' n' off' ob' hi' ho2 hop2 hd2 hg2 hu2 hok2 hob2 hlt2
  have hu3 : bp s.tmps u' = .ptr n' off' := by
   by_cases hut : t = u'
   ·subst hut
    exfalso
    unfold bp at hu2
    rw [List.getElem?_set_self (by rw [← hsz]; exact htl)] at hu2
    simp at hu2
   rwa [bO hut] at hu2
  have hob3 : ∃ y, s.obj n' = some y := by
   have hob2' : (s.ju n (.cells (dd off [.dat (.slice es)] cs))).obj n' = some ob' := by cases n' <;> exact hob2
   exact DD hob2'
  obtain ⟨y, hy⟩ := hob3
  exact hf i' o' T' u' t' n' off' y (by simp [hi']) ho2 hop2 hd2 hg2 hu3 hok2 hy hlt2
theorem wY {fh : Bool} {all : List Oper} : ∀ (tk : List Nat) (s s' : aa), dg fh all tk s = some s' -> ∀ n ob, s'.obj n = some ob -> ∃ y, s.obj n = some y
 | [], s, s', h, n, ob, hn => by simp [dg] at h; subst h; exact ⟨ob, hn⟩
 | i :: r, s, s', h, n, ob, hn => by
  obtain ⟨o, T, u, t, m, off, cs, es, es2, ho, hop, hd, hg, hu, hok, hob, hes, ht, hrest⟩ := fx h
  obtain ⟨y, hy⟩ := wY r _ _ hrest n ob hn
  obtain ⟨z, hz⟩ := DD hy
  exact ⟨z, by cases n <;> exact hz⟩
theorem yZ : ∀ {os : List (Name × aN)} {n m : Name} {o x : aN}, dM m os = some x -> ∃ y, dM m (hZ n o os) = some y
 | [], _, _, _, _, h => by simp [dM] at h
 |(k, y) :: os, n, m, o, x, h => by
  simp only [dM] at h
  simp only [hZ]
  split
  ·simp only [dM]
   split
   ·exact ⟨_, rfl⟩
   rename_i hk
   rw [if_neg hk] at h
   exact ⟨x, h⟩
  simp only [dM]
  split
  ·exact ⟨_, rfl⟩
  rename_i hk
  rw [if_neg hk] at h
  exact yZ h
theorem Mc {s : aa} {n m : Name} {o x : aN} (h : s.obj m = some x) : ∃ y, (s.ju n o).obj m = some y := by
 cases n <;> cases m <;> simp only [aa.ju, aa.obj] at h ⊢
 ·exact yZ h
 ·exact ⟨_, h⟩
 ·exact ⟨_, h⟩
 exact yZ h
theorem wX {fh : Bool} {all : List Oper} : ∀ (tk : List Nat) (s s' : aa), dg fh all tk s = some s' -> ∀ n ob, s.obj n = some ob -> ∃ y, s'.obj n = some y
 | [], s, s', h, n, ob, hn => by simp [dg] at h; subst h; exact ⟨ob, hn⟩
 | i :: r, s, s', h, n, ob, hn => by
  obtain ⟨o, T, u, t, m, off, cs, es, es2, ho, hop, hd, hg, hu, hok, hob, hes, ht, hrest⟩ := fx h
  obtain ⟨y, hy⟩ := Mc (s := { s with tmps := s.tmps.set t (.own es) }) (n := m) (o := .cells (dd off [.dat (.slice es)] cs)) (m := n) (x := ob) (by cases n <;> exact hn)
  exact wX r _ _ hrest n y hy
theorem wW {fh : Bool} {all : List Oper} : ∀ (tk : List Nat) (s s' : aa), dg fh all tk s = some s' -> ∀ t n off, bp s'.tmps t = .ptr n off -> bp s.tmps t = .ptr n off
 | [], s, s', h, t, n, off, hn => by simp [dg] at h; subst h; exact hn
 | i :: r, s, s', h, t', n', off', hn => by
  obtain ⟨o, T, u, t, m, off, cs, es, es2, ho, hop, hd, hg, hu, hok, hob, hes, ht, hrest⟩ := fx h
  have h1 := wW r _ _ hrest t' n' off' hn
  rw [Ak] at h1
  by_cases he : t = t'
  ·subst he
   exfalso
   have hlt := (List.getElem?_eq_some_iff.1 (tH ht (by simp))).1
   unfold bp at h1
   rw [List.getElem?_set_self hlt] at h1
   simp at h1
  rwa [bO he] at h1
/-- An append, its ownership in hand. -/
theorem KA (hE : E.Ok P) {o : Oper} {t : Tmp} (ht : eQ o.op = some t) {s s' : aa} (h : cK E G false false o s = some s') {w : World} {R : Own} {N : Name -> Option Nat} {act : Act} {bsT bsL bsH bsF : List Nat}
  (hr : cR G w R N act.tmps.toList s undef .undef [] bsT bsL bsH bsF) :
  ∃ cv w' R' bsT', Su P w act.eval o cv w' /\ cR G w' R' N (act.put o.dst cv).tmps.toList s' undef .undef [] bsT' bsL bsH bsF /\ bz w R w' R' (bsL ++ (bsH ++ bsF)) := by
 unfold cK at h
 have hnd0 : (bsT ++ (bsL ++ (bsH ++ bsF))).Nodup := by simpa using hr.nodup
 obtain ⟨bsM, bsT', ha, ht', hnd, hmv⟩ := pw hr.tmps hr.glob (jL false o.op) (opsL o.op) (bsL ++ (bsH ++ bsF)) hnd0
 split at h
 ·simp at h
 rename_i out hop
 obtain ⟨hk, hl⟩ := oC ht hop
 have hlo : bd s o.op (aJ G s (jL false o.op) 0 (opsL o.op)) = none := by unfold bd; rw [hl]
 rw [hlo] at hop
 have hlk : dO w R N o.op (aJ G s (jL false o.op) 0 (opsL o.op)) none none := by unfold dO; rw [hl]; exact ⟨rfl, rfl⟩
 obtain ⟨cv, w', R', hran, hkeep, hout⟩ := lX (rest := bsT' ++ (bsL ++ (bsH ++ bsF))) hE hop ha (fun h => hmv (by unfold jL; simp [h])) hlk (by simpa [rA] using hnd) (fun _ => rfl)
 rw [hk] at hout
 obtain ⟨bsV, hv, hf, _, _⟩ := hout
 simp only [du, hk, Option.some.injEq] at h
 subst h
 obtain ⟨dl1, dl2, dl3⟩ := po s (jL false o.op) (opsL o.op)
 have hlt : ∀ b ∈ bsT' ++ (bsL ++ (bsH ++ bsF)), b < w.heap.size := fun b hb => by
  simp at hb
  rcases hb with h | h | h | h
  ·exact ht'.lt b h
  ·exact hr.locs.lt b h
  ·exact hr.heap.lt b h
  exact hr.frame b h
 have hndV : (bsV ++ (bsT' ++ (bsL ++ (bsH ++ bsF)))).Nodup := eN hnd hlt hf
 obtain ⟨bsT2, hp1, hp2⟩ := eX o.dst (ht'.keep (hkeep.sub (by intro b hb; simp [hb]))) hv hndV
 obtain ⟨q1, q2, q3⟩ := cN (bB s (jL false o.op) (opsL o.op)) o.dst out.val
 refine ⟨cv, w', R', bsT2, hran, ⟨aP _, ?_, ?_, ?_, by simpa using hp2, ?_, fun g cs hg => (hr.glob g cs hg).step hkeep.step, fun b hb => Nat.lt_of_lt_of_le (hr.frame b hb) hkeep.step.size⟩, hkeep.sub (by intro b hb; simp at hb; simp; exact .inr hb)⟩
 ·rw [(fM act o.dst cv).1]; exact hp1
 ·rw [q1, dl1]; exact hr.locs.keep (hkeep.sub (by intro b hb; simp [hb]))
 ·rw [q2, dl2]; exact hr.heap.keep (hkeep.sub (by intro b hb; simp [hb]))
 rw [q3, dl3]; exact hr.next
/-- A call or an append that comes up alone. -/
theorem Tm (hE : E.Ok P) {ops : Array Oper} {h : az} (hc : dA ops h = true) (hca : mP ops h = true) (hcst : fO ops h = true) {listed : Array Bool} {w : World} {R : Own} {N : Name -> Option Nat} {act : Act} {s : aa} {bsT bsL bsH bsX bsF : List Nat}
  (hp : zH E G H ops h listed w R N act s bsT bsL bsH bsX bsF) (hcl : fX ops listed) (hd : act.defers = D) {i : Nat} {o : Oper} (hi : ops[i]? = some o) (hun : listed[i]? = some false) (hm : (i, true) ∈ h.pre) (hrd : i ∈ Region.ready .any ops listed) {K : aa -> Prop} (hq : JD (aB P G) E G H (aO H ops.toList h.pre) h.tk ops.toList o K s)
  {Qx : Exit -> Act -> World -> Prop} {Kx : Act -> World -> Prop}
  (hK : ∀ s' cv w' R' N' bsT' bsL' bsH', K s' -> zH E G H ops h (bK listed i) w' R' N' (act.put o.dst cv) s' bsT' bsL' bsH' bsX bsF -> bz w R w' R' bsF -> (∀ o b, N (.out o) = some b -> N' (.out o) = some b) -> Kx (act.put o.dst cv) w') : wpOp P ops Qx i Kx act w := by
 have hself : ∀ {s' : aa} {cv : Value} {w' : World} {R' : Own} {N' : Name -> Option Nat} {bsT' bsL' bsH' : List Nat}, cR G w' R' N' (act.put o.dst cv).tmps.toList s' undef .undef [] bsT' bsL' bsH' (bsX ++ bsF) -> bz w R w' R' bsX -> (∀ n ob b, BP (aO H ops.toList h.pre) n = true -> s.obj n = some ob -> N n = some b -> w'.heap[b]? = w.heap[b]?) ->
   (∀ m c, N m = some c -> N' m = some c) -> (∀ n ob, BP (aO H ops.toList h.pre) n = true -> s'.obj n = some ob -> ∃ y, s.obj n = some y) -> (∀ t n off, BP (aO H ops.toList h.pre) n = true -> o.dst ≠ some t -> bp s'.tmps t = .ptr n off -> bp s.tmps t = .ptr n off) ->
   (o.guard ≠ none ∨ ∃ c, o.op = .call c) -> zH E G H ops h (bK listed i) w' R' N' (act.put o.dst cv) s' bsT' bsL' bsH' bsX bsF := by
  intro s' cv w' R' N' bsT' bsL' bsH' hr2 hk hkL hN hlocs hT hwhy
  obtain ⟨c1, c2⟩ := hp.carry (cv := cv) [] hc hcl hi hun hm hk hkL hN hlocs hT
  refine ⟨hr2, ?_, ?_⟩
  ·intro j q t' d ti' hnw hl hqo hop2 hdd hg hty hlt2
   by_cases hji : j = i
   ·subst hji
    rw [hi] at hqo
    simp at hqo
    subst hqo
    rcases hwhy with hwhy | ⟨c, hcc⟩
    ·exact absurd hg hwhy
    rw [hop2] at hcc; simp at hcc
   simpa using c1 j q t' d ti' hji hnw hl hqo hop2 hdd hg hty hlt2
  intro j q T u t' n off ob htk hl hqo hop2 hdd hg hu hok hob hlt2
  by_cases hji : j = i
  ·subst hji
   rw [hi] at hqo
   simp at hqo
   subst hqo
   rcases hwhy with hwhy | ⟨c, hcc⟩
   ·exact absurd hg hwhy
   rw [hop2] at hcc; simp at hcc
  exact c2 j q T u t' n off ob hji htk hl hqo hop2 hdd hg hu hok hob hlt2
 unfold wpOp
 simp only [hi]
 unfold JD at hq
 split at hq
 ·exact hq.elim
 rename_i b hw
 rw [jr hp.rel.tmps hw]
 split at hq
 ·rename_i hb
  subst hb
  simp only [if_true]
  left
  split at hq
  ·rename_i c hcc
   have hop := tD hcc
   split at hq
   ·rename_i f args s2 hcal
    obtain ⟨cargs, hrun, hno, bsA, bsT2, hr2⟩ := zm hE hcal hp.rel o hop
    obtain ⟨hsim, hlocs2⟩ := lz hcal
    cases hpu : gq H o with
    | true =>
     rw [hpu] at hq
     refine vC hrun hr2 hno hd hq ?_
     intro v cv n w' R' N' bsT' hKs hr4 hk hext _
     refine hK _ cv w' R' N' bsT' bsL bsH hKs (hself hr4 (hk.sub (by intro x hx; simp [hx])) ?_ hext ?_ ?_ (.inr ⟨c, hop⟩)) (hk.sub (by intro x hx; simp [hx])) (fun o b h => hext _ _ h)
     ·intro n ob b _ hob hb
      exact nJ hp.rel.locs hp.rel.heap hk (by intro x hx; simp [hx]) (by intro x hx; simp [hx]) n ob b hob hb
     ·intro n ob _ hn
      rw [kI] at hn
      have e2 := lA hcal
      cases n with
      | loc k => simp only [aa.obj] at hn ⊢; exact ⟨ob, by rw [← hlocs2]; exact hn⟩
      | out k => simp only [aa.obj] at hn ⊢; exact ⟨ob, by rw [← e2]; exact hn⟩
     intro t n off _ ht hn
     rw [cH ht] at hn
     exact sR (hsim t) hn
    | false =>
    rw [hpu] at hq
    refine yL hrun hr2 hno hd (hq.mono fun v heap n hx b1 b2 => (hx b1 b2).2) ?_
    intro v cv heap n w' R' N' bsT' bsH' hKs hr4 hk hext _
    have hfh := mX (all := ops.toList) hm (by simpa using hi) hcc hpu
    have hloc : ∀ n, BP (aO H ops.toList h.pre) n = true -> ∃ k, n = .loc k := by
     intro n hn
     cases n with
     | loc k => exact ⟨k, rfl⟩
     | out k => rw [hfh] at hn; simp [BP] at hn
    refine hK _ cv w' R' N' bsT' bsL bsH' hKs (hself hr4 (hk.sub (by intro x hx; simp [hx])) ?_ hext ?_ ?_ (.inr ⟨c, hop⟩)) (hk.sub (by intro x hx; simp [hx])) (fun o b h => hext _ _ h)
    ·intro n ob b hn hob hb
     obtain ⟨k, rfl⟩ := hloc n hn
     exact tx hp.rel.locs hk (by intro x hx; simp [hx]) _ ob b hob hb
    ·intro n ob hok hn
     obtain ⟨k, rfl⟩ := hloc n hok
     rw [kI] at hn
     simp only [aa.obj] at hn ⊢
     exact ⟨ob, by rw [← hlocs2]; exact hn⟩
    intro t n off _ ht hn
    rw [cH ht] at hn
    exact sR (hsim t) hn
   exact hq.elim
  split at hq
  ·rename_i t ht
   split at hq
   ·rename_i s1 hs1
    split at hq
    ·rename_i s' hs'
     obtain ⟨c, _, hop, _, _⟩ := mR ht
     -- the loads by which it owns have come up
     have hlisted : ∀ k ∈ fp ops.toList t (kq h.tk t s), listed[k]? = some true := by
      intro k hk
      unfold mP at hca
      have h1 := List.all_eq_true.1 hca (i, true) hm
      simp only [hi, ht] at h1
      have h2 := List.all_eq_true.1 h1 k (lC hk)
      obtain ⟨e, he1, he2⟩ := Array.any_eq_true'.1 h2
      simp only [Bool.and_eq_true, beq_iff_eq] at he2
      obtain ⟨_, o', ho', hafter⟩ := mem_ready.1 hrd
      rw [hi] at ho'
      simp at ho'
      subst ho'
      have h3 := hafter e he1 he2.1
      rw [he2.2] at h3
      rw [Array.getD_eq_getD_getElem?] at h3
      cases hg : listed[k]? with
      | none => rw [hg] at h3; simp at h3
      | some b => rw [hg] at h3; simp at h3; rw [h3]
     obtain ⟨bsT1, bsL1, bsH1, hr1⟩ := qY _ hs1 hp.rel (fun k o' T u t' n off ob hk ho' hop' hd' hg' hu' hok' hob' hlt' => hp.tkf k o' T u t' n off ob (jH (lC hk)).1 (hlisted k hk) ho' hop' hd' hg' hu' hok' hob' hlt')
     obtain ⟨cv, w', R', bsT', hran, hr2, hkeep⟩ := KA hE ht hs' hr1
     refine tj hran ?_
     obtain ⟨v, he, _⟩ := sx ht hs'
     refine hK s' cv w' R' N bsT' bsL1 bsH1 hq (hself hr2 (hkeep.sub (by intro x hx; simp [hx])) ?_ (fun _ _ h => h) ?_ ?_ (.inr ⟨c, hop⟩)) (hkeep.sub (by intro x hx; simp [hx])) (fun _ _ h => h)
     ·intro n ob b _ hob hb
      obtain ⟨y, hy⟩ := wX _ _ _ hs1 n ob hob
      exact nJ hr1.locs hr1.heap hkeep (by intro x hx; simp [hx]) (by intro x hx; simp [hx]) n y b hy hb
     ·intro n ob _ hn
      rw [he, kI] at hn
      exact wY _ _ _ hs1 n ob (by cases n <;> exact hn)
     intro t' n off _ ht' hn
     rw [he, cH ht'] at hn
     have e1 := jD (s := s1) (x := .tmp t) t'
     simp only [bB, List.getElem?_cons_zero] at e1
     exact wW _ _ _ hs1 t' _ _ (sR e1 hn)
    exact hq.elim
   exact hq.elim
  split at hq
  ·rename_i hst
   split at hq
   ·rename_i s' hs'
    unfold fO at hcst
    have g1 := List.all_eq_true.1 hcst (i, true) hm
    simp only [hi, hst, Bool.not_true, Bool.false_or, Bool.and_eq_true, Option.isNone_iff_eq_none, List.isEmpty_iff] at g1
    obtain ⟨⟨⟨hnw, htk⟩, _⟩, _⟩ := g1
    obtain ⟨cv, w', hran, ⟨R', N', bsT', bsL', bsH', hr', hk', hN', _⟩, _⟩ := oB hE hs' hp.rel
    refine tj hran (hK s' cv w' R' N' bsT' bsL' bsH' hq ⟨hr', ?_, ?_⟩ (hk'.sub (by intro x hx; simp [hx])) hN')
    ·intro j q t' d ti' hj
     rw [hnw] at hj
     simp at hj
    intro j q T u t' n off ob hj
    rw [htk] at hj
    simp at hj
   exact hq.elim
  exact hq.elim
 rename_i hb
 rw [if_neg hb]
 have hng : o.guard ≠ none := by
  intro hg
  unfold dj at hw
  rw [hg] at hw
  simp at hw
  exact hb hw
 obtain ⟨bsT', hr2⟩ := mb hp.rel o.dst
 exact hK _ undef w R N bsT' bsL bsH hq (hself hr2 (bg _) (fun _ _ _ _ _ _ => rfl) (fun _ _ h => h) (fun n ob _ hn => ⟨ob, by rw [kI] at hn; exact hn⟩) (fun t n off _ ht hn => by rw [cH ht] at hn; exact hn) (.inl hng)) (bg _) (fun _ _ h => h)
/-- .. whatever names that slot's object of old. -/
def me (E : bq) (all : List Oper) (mk : Option Nat) (s : aa) : Option aa :=
 match mk with
 | none => some s
 | some i => (match all[i]? with
  | some o => (match o.op, o.dst, o.guard with
   | .alloc t, some d, none => (match E.ty t with
    | some ti => if ee (bA (cd ti.zero)) = true /\ aX (.loc d) (bA (cd ti.zero)) = false /\ d < s.tmps.length then some (newObj s d (.cells (bA (cd ti.zero)))) else none
    | none => none)
   | _, _, _ => none)
  | none => none)
theorem Da {all : List Oper} {nw : Option Nat} {s s' : aa} (h : gJ E all nw s = some s') : me E all nw s = some s' := by
 unfold gJ at h
 unfold me
 cases nw with
 | none => exact h
 | some i =>
  dsimp only at h ⊢
  cases hi : all[i]? with
  | none => rw [hi] at h; simp at h
  | some o =>
   rw [hi] at h
   dsimp only at h ⊢
   split at h
   ·rename_i t d hop hd hg
    rw [hop, hd, hg]
    dsimp only
    cases hty : E.ty t with
    | none => rw [hty] at h; simp at h
    | some ti =>
     rw [hty] at h
     dsimp only at h ⊢
     split at h
     ·rename_i hc
      rw [if_pos ⟨hc.1, hc.2.1, hc.2.2.1⟩]
      exact h
     simp at h
   simp at h
theorem lh {n : Name} : ∀ {l : List ae} {t : Nat} {v : ae}, aX n l = false -> l[t]? = some v -> mentions n v = false
 | [], _, _, _, h => by simp at h
 | a :: l, 0, v, h, hv => by simp only [aX, Bool.or_eq_false_iff] at h; simp at hv; rw [← hv]; exact h.1
 | a :: l, t + 1, v, h, hv => by simp only [aX, Bool.or_eq_false_iff] at h; exact lh h.2 (by simpa using hv)
theorem to {n : Name} : ∀ {l : List ae} {t : Nat}, (∀ v, l[t]? = some v -> mentions n v = false) -> (cP n l)[t]? = l[t]?
 | [], _, _ => rfl
 | a :: l, 0, h => by simp [cP, h a rfl]
 | a :: l, t + 1, h => by simp only [cP, List.getElem?_cons_succ]; exact to (fun v hv => h v (by simpa using hv))
theorem An {n : Name} {l : List ae} {d : Nat} {a : ae} (h : aX n (l.set d a) = false) {t : Nat} (ht : t ≠ d) : (cP n l)[t]? = l[t]? :=
 to fun v hv => lh h (by rw [List.getElem?_set_ne (Ne.symm ht)]; exact hv)
theorem JA {n : Name} {l : List ae} {d : Nat} {a : ae} (h : aX n (l.set d a) = false) : (cP n l).set d a = l.set d a := by
 apply List.ext_getElem?
 intro t
 by_cases ht : t = d
 ·subst ht
  rw [List.getElem?_set_self', List.getElem?_set_self']
  have := Ao n l
  by_cases hl : t < l.length
  ·rw [List.getElem?_eq_getElem hl, List.getElem?_eq_getElem (by omega)]; rfl
  rw [List.getElem?_eq_none (by omega), List.getElem?_eq_none (by omega)]
 rw [List.getElem?_set_ne (Ne.symm ht), List.getElem?_set_ne (Ne.symm ht)]
 exact An h ht
theorem FH {n : Name} {l : List ae} (h : aX n l = false) : cP n l = l := by
 apply List.ext_getElem?
 intro t
 exact to fun v hv => lh h hv
/-- The new variable ahead of a slot's being written. -/
theorem Db {ops : Array Oper} {nw : Option Nat} {s s2 : aa} {d : Tmp} {a : ae} (h : gJ E ops.toList nw (s.put (some d) a) = some s2) (hnd : nK ops nw ≠ some d) :
  ∃ s2', me E ops.toList nw s = some s2' /\ s2 = s2'.put (some d) a /\ ∀ x, x ≠ d -> nK ops nw ≠ some x -> bp s2'.tmps x = bp s.tmps x := by
 unfold gJ at h
 unfold me
 cases nw with
 | none => simp at h; exact ⟨s, rfl, h.symm, fun _ _ _ => rfl⟩
 | some i =>
  dsimp only at h ⊢
  cases hi : ops.toList[i]? with
  | none => rw [hi] at h; simp at h
  | some o =>
   rw [hi] at h
   dsimp only at h ⊢
   split at h
   ·rename_i t dn hop hd hg
    rw [hop, hd, hg]
    have hns : nK ops (some i) = some dn := by
     unfold nK
     have : ops[i]? = some o := by simpa using hi
     simp only [this, hd]
    rw [hns] at hnd
    have hdn : dn ≠ d := fun e => hnd (by rw [e])
    dsimp only
    cases hty : E.ty t with
    | none => rw [hty] at h; simp at h
    | some ti =>
     rw [hty] at h
     dsimp only at h ⊢
     split at h
     ·rename_i hc
      have hm : aX (.loc dn) (s.tmps.set d a) = false := hc.2.2.2
      rw [if_pos ⟨hc.1, hc.2.1, by simpa [aa.put] using hc.2.2.1⟩]
      simp only [Option.some.injEq] at h
      refine ⟨_, rfl, ?_, ?_⟩
      ·rw [← h]
       simp only [newObj, aa.put]
       rw [FH hm, List.set_comm _ _ hdn, JA hm]
      intro x hx hxn
      rw [hns] at hxn
      simp only [newObj]
      rw [bO (fun e => hxn (by rw [e]))]
      unfold bp
      rw [An hm hx]
     simp at h
   simp at h
/-- The first of the others ahead of the last of those that go ahead. -/
theorem JQ {fh : Bool} {all : List Oper} {oi oj : Oper} {x d : Tmp} {a : ae} (ha : iG oi oj = true) (hx : opsL oi.op = [.tmp x]) (hd : oi.dst = some d) {s s2' : aa} {K : aa -> Prop} (hq : eE E G fh all oi s = some a) (hxe : bp s2'.tmps x = bp s.tmps x)
  (h : lx (aB P G) E G H all oj K (s2'.put (some d) a)) :
  ∃ s3', cK E G (readOnly H.moves all oj) (ku H all oj) oj s2' = some s3' /\ cK E G true false oi s3' = some (s3'.put (some d) a) /\ K (s3'.put (some d) a) := by
 unfold iG at ha
 simp only [Bool.and_eq_true, Bool.or_eq_true, Option.isNone_iff_eq_none] at ha
 obtain ⟨⟨⟨⟨g1, g2⟩, g3⟩, g4⟩, g5⟩ := ha
 have hof : cV oi.op = none /\ mC oi.op = false /\ (∀ vals, looks oi.op vals = none) /\ (opsL oj.op).any (de x) = false /\ (opsL oj.op).any (de d) = false /\ oj.dst ≠ some x /\ oj.dst ≠ some d := by
  split at g5
  ·rename_i y k d' e1 e2
   rw [e1] at hx ⊢
   simp [opsL] at hx
   subst hx
   rw [hd] at e2
   simp at e2
   subst e2
   simp only [Bool.and_eq_true, Bool.not_eq_true', bne_iff_ne] at g5
   exact ⟨rfl, rfl, fun _ => rfl, g5.1.1.1, g5.1.1.2, g5.1.2, g5.2⟩
  ·rename_i y d' e1 e2
   rw [e1] at hx ⊢
   simp [opsL] at hx
   subst hx
   rw [hd] at e2
   simp at e2
   subst e2
   simp only [Bool.and_eq_true, Bool.not_eq_true', bne_iff_ne] at g5
   exact ⟨rfl, rfl, fun _ => rfl, g5.1.1.1, g5.1.1.2, g5.1.2, g5.2⟩
  simp at g5
 obtain ⟨hc, hal, hl, h1, h2, hpx, hpd⟩ := hof
 unfold lx at h
 simp only [g2, dj, g4, if_true] at h
 split at h
 ·rename_i s3 hs3
  obtain ⟨v, k1, k2⟩ := qI g3 hs3
  have k1 := k1 s2'.tmps (by
   intro t ht
   have htd : d ≠ t := fun e => by rw [← e, h2] at ht; simp at ht
   simp only [aa.put]
   rw [bO htd])
  have hst : ({ (s2'.put (some d) a) with tmps := s2'.tmps } : aa) = s2' := rfl
  rw [hst] at k1
  have hs3e : s3 = ({ s3 with tmps := gv (eV s2'.tmps (jL (readOnly H.moves all oj) oj.op) (opsL oj.op)) oj.dst v } : aa).put (some d) a := by
   obtain ⟨t3, l3, h3, n3⟩ := s3
   simp only [aa.put] at k2 ⊢
   rw [k2, pq h2, qE hpd]
  refine ⟨_, k1, ?_, by rw [← hs3e]; exact h⟩
  unfold eE at hq
  simp only [g1, dj, if_true, hal, Bool.false_eq_true, if_false, hc] at hq
  split at hq
  ·split at hq
   ·rename_i out hout
    split at hq
    ·rename_i hk
     simp only [Option.some.injEq] at hq
     have hla : ∀ s4 : aa, ∀ vals, bd s4 oi.op vals = none := fun s4 vals => by unfold bd; rw [hl]
     rw [hla] at hout
     have hgx : bp (gv (eV s2'.tmps (jL (readOnly H.moves all oj) oj.op) (opsL oj.op)) oj.dst v) x = bp s.tmps x := by rw [qF hpx, gY h1, hxe]
     have hv : aJ G ({ s3 with tmps := gv (eV s2'.tmps (jL (readOnly H.moves all oj) oj.op) (opsL oj.op)) oj.dst v } : aa) none 0 (opsL oi.op) = aJ G s none 0 (opsL oi.op) := by
      rw [hx]
      simp only [aJ, dZ, hgx]
     have hm : jL true oi.op = none := rfl
     unfold cK
     rw [hm, hv, hla, hout]
     simp only [du, hk, bB, hd, hq]
    simp at hq
   simp at hq
  simp at hq
 exact h.elim
theorem Hz (hE : E.Ok P) (ops : Array Oper) {i : Nat} {o : Oper} (hi : ops[i]? = some o) (hg : o.guard = none) {q take : Bool} {s s' : aa} (hst : cK E G q take o s = some s') {Qx : Exit -> Act -> World -> Prop}
  {w : World} {R : Own} {N : Name -> Option Nat} {act : Act} {bsT bsL bsH bsF : List Nat} (hr : cR G w R N act.tmps.toList s undef .undef [] bsT bsL bsH bsF) (hd : act.defers = D) :
  wpOp P ops Qx i (Pm G D (fun s1 => s1 = s') w R N bsF) act w := by
 unfold wpOp
 simp only [hi]
 have hwt := jr (ops := ops) (o := o) (b := true) hr.tmps (by rw [hg]; rfl)
 rw [hwt, if_pos rfl]
 left
 obtain ⟨cv, w', hran, ⟨R', N', bsT', bsL', bsH', hr', hk', hN', _⟩, _⟩ := oB hE hst hr
 exact tj hran ⟨s', R', N', bsT', bsL', bsH', rfl, hr', by rw [(fM act o.dst cv).2]; exact hd, hk', fun o b h => hN' _ _ h⟩
/-- The new variable comes into sight. -/
theorem qZ {ops : Array Oper} {w : World} {R : Own} {N : Name -> Option Nat} {act : Act} {bsT bsL bsH bsX bsF : List Nat} {nw : Option Nat} {s s' : aa} (h : me E ops.toList nw s = some s')
  (hr : cR G w R N act.tmps.toList s undef .undef [] bsT bsL bsH (bsX ++ bsF))
  (hf : ∀ i o t d ti, nw = some i -> ops[i]? = some o -> o.op = .alloc t -> o.dst = some d -> o.guard = none -> E.ty t = some ti -> d < act.tmps.size ->
   ∃ b, b ∈ bsX /\ act.tmps[d]? = some (.pointer (some ⟨b, 0, none⟩)) /\ aQ w R N (.cells (bA (cd ti.zero))) b []) :
  ∃ N' bsT' bsL', cR G w R N' act.tmps.toList s' undef .undef [] bsT' bsL' bsH bsF /\ ∀ k, N' (.out k) = N (.out k) := by
 cases nw with
 | none =>
  simp [me] at h
  subst h
  refine ⟨N, bsT, bsL, ⟨hr.val, hr.tmps, hr.locs, hr.heap, ?_, hr.next, hr.glob, fun b hb => hr.frame b (by simp [hb])⟩, fun _ => rfl⟩
  refine List.Nodup.sublist ?_ hr.nodup
  exact List.Sublist.append (.refl _) (List.Sublist.append (.refl _) (List.Sublist.append (.refl _) (List.Sublist.append (.refl _) (List.sublist_append_right _ _))))
 | some i =>
  simp only [me] at h
  split at h
  ·rename_i o ho
   split at h
   ·rename_i t d hop hd hg
    split at h
    ·rename_i ti hti
     split at h
     ·rename_i hcond
      simp at h
      subst h
      have hsz : act.tmps.size = s.tmps.length := by have := hr.tmps.length; simpa using this
      obtain ⟨b, hbX, hdt, hobj⟩ := hf i o t d ti rfl (by simpa using ho) hop hd hg hti (by rw [hsz]; exact hcond.2.2)
      have hN : ∀ m, m ≠ Name.loc d -> bU N (.loc d) b m = N m := fun m hm => by simp [bU, hm]
      obtain ⟨bsT2, t1, t2⟩ := aj.nG hN hr.tmps
      obtain ⟨bsL2, l1, l2⟩ := an.nG hN hr.locs
      have hob2 : aQ w R (bU N (.loc d) b) (.cells (bA (cd ti.zero))) b [] := ml hobj (fun cs hcs => by simp at hcs; subst hcs; exact hcond.2.1)
      have hH2 : an w R (outs (bU N (.loc d) b)) s.heap bsH := hr.heap.ru (fun k => by simp [bU])
      have hpv : ak w R (bU N (.loc d) b) (.ptr (.loc d) 0) (.pointer (some ⟨b, 0, none⟩)) [] := by simp [ak, bU]
      have hnd3 : ([] ++ (bsT2 ++ ((b :: ([] ++ bsL2)) ++ (bsH ++ bsF)))).Nodup := by
       have h0 := hr.nodup
       obtain ⟨x1, x2, e⟩ := List.append_of_mem hbX
       subst e
       have h1 : (b :: (bsT ++ (bsL ++ (bsH ++ bsF)))).Nodup := by
        have hp : ([] ++ (bsT ++ (bsL ++ (bsH ++ ((x1 ++ b :: x2) ++ bsF))))).Perm ((x1 ++ x2) ++ (b :: (bsT ++ (bsL ++ (bsH ++ bsF))))) := by
         rw [List.perm_iff_count]; intro q; simp only [List.count_append, List.count_cons, List.count_nil]; omega
        exact (List.nodup_append.1 (hp.nodup_iff.1 h0)).2.1
       have hp : ([] ++ (bsT2 ++ ((b :: ([] ++ bsL2)) ++ (bsH ++ bsF)))).Perm (b :: (bsT2 ++ (bsL2 ++ (bsH ++ bsF)))) := by rw [List.perm_iff_count]; intro q; simp only [List.count_append, List.count_cons, List.count_nil]; omega
       refine hp.nodup_iff.2 (List.Nodup.sublist ?_ h1)
       exact (List.Sublist.append t2 (List.Sublist.append l2 (.refl _))).cons_cons _
      obtain ⟨bsT'', hp1, hp2⟩ := lG d t1 hpv hnd3
      have hdt' : act.tmps.toList[d]? = some (.pointer (some ⟨b, 0, none⟩)) := by simpa using hdt
      have hsame : act.tmps.toList.set d (.pointer (some ⟨b, 0, none⟩)) = act.tmps.toList := by
       apply List.ext_getElem?
       intro j
       rw [List.getElem?_set]
       split
       ·rename_i hj; subst hj; split
        ·exact hdt'.symm
        rename_i hl; rw [List.getElem?_eq_none (by omega)]
       rfl
      rw [hsame] at hp1
      refine ⟨bU N (.loc d) b, bsT'', b :: ([] ++ bsL2), ⟨aP _, ?_, ?_, ?_, by simpa using hp2, ?_, hr.glob, fun x hx => hr.frame x (by simp [hx])⟩, fun k => by simp [bU]⟩
      ·simp only [newObj, xR]; exact hp1
      ·simp only [newObj]; exact ⟨b, [], bsL2, rfl, by simp [bU], hob2, l1⟩
      ·simp only [newObj]; exact hH2
      intro k c hk
      simp [bU] at hk
      simp only [newObj]
      exact hr.next k c hk
     simp at h
    simp at h
   simp at h
  simp at h
theorem pR {ops : Array Oper} : ∀ (r : List (Nat × Bool)) (l : Array Bool), mO ops r l = true -> l.size = ops.size -> ∀ x ∈ r, (dI r l)[x.1]? = some true
 | [], _, _, _, x, hx => by simp at hx
 |(i, lone) :: r, l, hc, hsz, x, hx => by
  simp only [mO, Bool.and_eq_true] at hc
  rcases List.mem_cons.1 hx with rfl | hx
  ·simp only [dI]
   apply kJ
   have hrd : i ∈ Region.ready .any ops l := by
    cases lone
    ·have := hc.1; simp at this; simpa using this.1
    have := hc.1; simp at this; rw [this]; simp
   obtain ⟨_, o, ho, _⟩ := mem_ready.1 hrd
   have hlt : i < l.size := by rw [hsz]; exact (Array.getElem?_eq_some_iff.1 ho).1
   simp [bK, hlt]
  exact pR r (bK l i) hc.2 (by simpa [bK] using hsz) x hx
/-- The operations that go ahead or come up alone, in whatever order. -/
theorem vr (hE : E.Ok P) {ops : Array Oper} {h : az} (hc : dA ops h = true) (hca : mP ops h = true) (hcst : fO ops h = true) {p : Array Bool} {Q : aa -> Prop} {Kx : Exit -> Act -> World -> Prop} (hall : ∀ x ∈ h.pre, p[x.1]? = some true) (htail : hD ops h.tail p = true) :
  ∀ (fuel F : Nat) (listed : Array Bool) (s : aa), fuel + h.tail.length <= F -> listed.size = ops.size -> fX ops listed ->
   oH P E G H ops h p (fun s1 => match gJ E ops.toList h.nw s1 with
    | some s2 => lv (aB P G) E G H ops.toList Q (dw ops.toList h.tail) s2
    | none => False) fuel listed s ->
   ∀ (w : World) (R : Own) (N : Name -> Option Nat) (act : Act) (bsT bsL bsH bsX bsF : List Nat), zH E G H ops h listed w R N act s bsT bsL bsH bsX bsF -> act.defers = D ->
   (∀ a' w', Pm G D Q w R N bsF a' w' -> Kx .normal a' w') -> wpAny P .any ops Kx F listed act w := by
 have hfin : ∀ (F : Nat) (s : aa), h.tail.length <= F -> (match gJ E ops.toList h.nw s with
    | some s2 => lv (aB P G) E G H ops.toList Q (dw ops.toList h.tail) s2
    | none => False) ->
   ∀ (w : World) (R : Own) (N : Name -> Option Nat) (act : Act) (bsT bsL bsH bsX bsF : List Nat), zH E G H ops h p w R N act s bsT bsL bsH bsX bsF -> act.defers = D ->
   (∀ a' w', Pm G D Q w R N bsF a' w' -> Kx .normal a' w') -> wpAny P .any ops Kx F p act w := by
  intro F s hF hT w R N act bsT bsL bsH bsX bsF hp hd hK
  have hin : ∀ i, i ∈ h.nw.toList ++ h.tk -> p[i]? = some true := by
   intro i hi
   unfold dA at hc
   have h1 := List.all_eq_true.1 hc i hi
   simp only [Bool.and_eq_true] at h1
   exact hall (i, false) (by simpa using h1.1)
  split at hT
  ·rename_i s3 hs3
   obtain ⟨N3, bsT3, bsL3, hr3, hN3⟩ := qZ (Da hs3) hp.rel (fun i o t d ti hi ho hop hd hg hty hlt => hp.nwf i o t d ti hi (hin i (by simp [hi])) ho hop hd hg hty hlt)
   exact kV hE ops Q Kx h.tail p F s3 htail hF hT w R N3 act bsT3 bsL3 bsH bsF hr3 hd (fun a' w' h' => hK a' w' (h'.trans (bg _) (fun o b hb => by rw [hN3]; exact hb)))
  exact hT.elim
 have lateCase : ∀ {fuel : Nat} (F : Nat) (listed : Array Bool) (s : aa), fuel + 1 + h.tail.length <= F -> listed.size = ops.size -> fX ops listed -> ∀ (i : Nat) (oi : Oper) (a : ae), bK listed i = p -> mB ops h p i = true -> ops[i]? = some oi -> (i, false) ∈ h.pre ->
   i ∈ Region.ready .any ops listed -> eE E G (aO H ops.toList h.pre || quietAt H ops.toList h.pre i) ops.toList oi s = some a ->
   (match gJ E ops.toList h.nw (s.put oi.dst a) with
    | some s2 => lv (aB P G) E G H ops.toList Q (dw ops.toList h.tail) s2
    | none => False) ->
   ∀ (w : World) (R : Own) (N : Name -> Option Nat) (act : Act) (bsT bsL bsH bsX bsF : List Nat), zH E G H ops h listed w R N act s bsT bsL bsH bsX bsF -> act.defers = D ->
   (∀ a' w', Pm G D Q w R N bsF a' w' -> Kx .normal a' w') -> wpAny P .any ops Kx F listed act w := by
  intro fuel F listed s hF hsz hcl i oi a hpe hlt hoi hm hri hq hT w R N act bsT bsL bsH bsX bsF hp hd hK
  have hun := cG hri hsz
  have hb := ra hun hpe
  have hlt0 := hlt
  unfold mB at hlt
  split at hlt
  ·simp at hlt
  ·rename_i j r htl
   rw [hb] at hlt
   simp only [Bool.and_eq_true, Bool.or_eq_true, beq_iff_eq] at hlt
   obtain ⟨⟨⟨⟨⟨⟨⟨hrd, hrj⟩, hrp⟩, hct⟩, _⟩, hnw⟩, htk⟩, hlast⟩ := hlt
   split at hlast
   rotate_left
   ·simp at hlast
   rename_i oi' oj hoi' hoj
   rw [hoi] at hoi'
   simp at hoi'
   subst hoi'
   simp only [Bool.and_eq_true] at hlast
   obtain ⟨⟨hap, hxs⟩, hnd⟩ := hlast
   obtain ⟨F', rfl⟩ : ∃ F', F = F' + 1 := ⟨F - 1, by omega⟩
   -- i first
   have hi : wpOp P ops Kx i (wpAny P .any ops Kx F' (listed.setIfInBounds i true)) act w := by
    refine L8 hE hc hp hcl hd hoi hun hm hq ?_
    intro cv w' R' bsT' bsX' hp' hk
    rw [show listed.setIfInBounds i true = p from hpe]
    rw [hpe] at hp'
    exact hfin F' _ (by omega) hT w' R' N _ bsT' bsL bsH bsX' bsF hp' (by rw [(fM act oi.dst cv).2]; exact hd) (fun a' w2 h' => hK a' w2 (h'.trans hk (fun _ _ hb => hb)))
   -- j first
   have hj : wpOp P ops Kx j (wpAny P .any ops Kx F' (listed.setIfInBounds j true)) act w := by
    obtain ⟨x, d, hx, hdd⟩ : ∃ x d, opsL oi.op = [.tmp x] /\ oi.dst = some d := by
     have hap' := hap
     unfold iG at hap'
     simp only [Bool.and_eq_true] at hap'
     have g5 := hap'.2
     split at g5
     ·rename_i x k d e1 e2; exact ⟨x, d, by rw [e1]; rfl, e2⟩
     ·rename_i x d e1 e2; exact ⟨x, d, by rw [e1]; rfl, e2⟩
     simp at g5
    rw [hdd] at hT
    split at hT
    ·rename_i s2 hs2
     have hnd' : nK ops h.nw ≠ some d := by rw [← hdd]; simpa using hnd
     obtain ⟨s2', hm0, rfl, hgx⟩ := Db hs2 hnd'
     rw [hx, hdd] at hxs
     simp at hxs
     have hxd : x ≠ d := fun e => by have := hxs.1; rw [e] at this; simp [de] at this
     have hxn : nK ops h.nw ≠ some x := fun e => by
      have := hxs.2
      rw [e] at this
      simp [de] at this
     have hj' : ops.toList[j]? = some oj := by simpa using hoj
     rw [htl] at hT
     simp only [dw, hj', lv, hO] at hT
     obtain ⟨s3', k1, k2, k3⟩ := JQ hap hx hdd hq (hgx x hxd hxn) hT
     have hin : ∀ k, k ∈ h.nw.toList -> listed[k]? = some true := by
      intro k hk
      have h1 := List.all_eq_true.1 (by unfold dA at hc; exact hc) k (List.mem_append_left _ hk)
      simp only [Bool.and_eq_true] at h1
      have h2 := hall (k, false) (by simpa using h1.1)
      have hki : i ≠ k := fun e => by subst e; simp [hk] at hnw
      rw [← hpe] at h2
      unfold bK at h2
      rwa [Array.getElem?_setIfInBounds_ne hki] at h2
     obtain ⟨N3, bsT3, bsL3, hr3, hN3⟩ := qZ hm0 hp.rel (fun k o t dk ti hk ho hop hdk hg hty hlt => hp.nwf k o t dk ti hk (hin k (by simp [hk])) ho hop hdk hg hty hlt)
     have gj : oj.guard = none /\ oi.guard = none := by
      unfold iG at hap
      simp only [Bool.and_eq_true, Bool.or_eq_true, Option.isNone_iff_eq_none] at hap
      exact ⟨hap.1.1.1.2, hap.1.1.1.1⟩
     refine wpOp_mono ?_ (Hz hE ops hoj gj.1 k1 hr3 hd)
     rintro a' w' ⟨s', R', N', bsT', bsL', bsH', rfl, hr', hd', hk', hN'⟩
     have htl2 : h.tail.length = r.length + 1 := by rw [htl]; rfl
     obtain ⟨F2, rfl⟩ : ∃ F2, F' = F2 + 1 := ⟨F' - 1, by omega⟩
     refine wpAny_all hrj (by simp) ?_
     intro k hk
     simp at hk
     subst hk
     refine wpOp_mono ?_ (Hz hE ops hoi gj.2 k2 hr' hd')
     rintro a2 w2 ⟨s'', R2, N2, bsT2, bsL2, bsH2, rfl, hr2, hd2, hk2, hN2⟩
     have hcm : (listed.setIfInBounds j true).setIfInBounds k true = bK p j := by
      rw [← hpe]
      unfold bK
      by_cases hjk : j = k
      ·subst hjk; rfl
      exact Array.setIfInBounds_comm _ _ hjk
     rw [hcm]
     refine kV hE ops Q Kx r (bK p j) F2 _ hct (by omega) k3 w2 R2 N2 a2 bsT2 bsL2 bsH2 bsF hr2 hd2 (fun a3 w3 h3 => hK a3 w3 ?_)
     exact ((h3.trans hk2 hN2).trans hk' hN').trans (bg _) (fun o b hb => by rw [hN3]; exact hb)
    exact hT.elim
   rcases hrd with hrd | hrd
   ·refine wpAny_all hrd (by simp) ?_
    intro k hk
    simp at hk
    rcases hk with rfl | rfl
    ·exact hi
    exact hj
   refine wpAny_all hrd (by simp) ?_
   intro k hk
   simp at hk
   rcases hk with rfl | rfl
   ·exact hj
   exact hi
 intro fuel
 induction fuel with
 | zero =>
  intro F listed s hF _ _ ha w R N act bsT bsL bsH bsX bsF hp hd hK
  obtain ⟨rfl, hT⟩ := ha
  exact hfin F s (by omega) hT w R N act bsT bsL bsH bsX bsF hp hd hK
 | succ fuel ih =>
  intro F listed s hF hsz hcl ha w R N act bsT bsL bsH bsX bsF hp hd hK
  rcases ha with ⟨rfl, hT⟩ | ⟨_, hne, hsteps⟩ | ⟨i, oi, a, hpe, hlt, hoi, hm, hri, hq, hT⟩
  rotate_right
  ·exact lateCase F listed s hF hsz hcl i oi a hpe hlt hoi hm hri hq hT w R N act bsT bsL bsH bsX bsF hp hd hK
  ·exact hfin F s (by omega) hT w R N act bsT bsL bsH bsX bsF hp hd hK
  obtain ⟨F', rfl⟩ : ∃ F', F = F' + 1 := ⟨F - 1, by omega⟩
  refine ⟨fun h0 => absurd h0 hne, fun i hi => ?_⟩
  obtain ⟨lone, o, hm, ho, hs⟩ := hsteps i hi
  cases lone
  ·simp only [Bool.false_eq_true, if_false] at hs
   obtain ⟨a, ha1, ha2⟩ := hs
   refine L8 hE hc hp hcl hd ho (cG hi hsz) hm ha1 ?_
   intro cv w' R' bsT' bsX' hp' hk
   exact ih F' (bK listed i) _ (by omega) (by simpa [bK] using hsz) (hcl.step hi) ha2 w' R' N _ bsT' bsL bsH bsX' bsF hp' (by rw [(fM act o.dst cv).2]; exact hd) (fun a' w2 h' => hK a' w2 (h'.trans hk (fun _ _ hb => hb)))
  simp only [if_true] at hs
  refine Tm hE hc hca hcst hp hcl hd ho (cG hi hsz) hm hi hs ?_
  intro s' cv w' R' N' bsT' bsL' bsH' hKs hp' hk hN
  exact ih F' (bK listed i) s' (by omega) (by simpa [bK] using hsz) (hcl.step hi) hKs w' R' N' _ bsT' bsL' bsH' bsX bsF hp' (by rw [(fM act o.dst cv).2]; exact hd) (fun a' w2 h' => hK a' w2 (h'.trans hk (fun o b hb => hN _ _ hb)))
/-- A region that is run in each order. -/
theorem E6 (hE : E.Ok P) {ops : Array Oper} {Q : aa -> Prop} {Kx : Exit -> Act -> World -> Prop} :
  ∀ (m F : Nat) (listed : Array Bool) (s : aa), ng (aB P G) E G H ops.toList Q m listed s -> m <= F -> ∀ (w : World) (R : Own) (N : Name -> Option Nat) (act : Act) (bsT bsL bsH bsF : List Nat),
   cR G w R N act.tmps.toList s undef .undef [] bsT bsL bsH bsF -> act.defers = D -> (∀ a' w', Pm G D Q w R N bsF a' w' -> Kx .normal a' w') -> wpAny P .any ops Kx F listed act w := by
 intro m
 induction m with
 | zero =>
  intro F listed s h _ w R N act bsT bsL bsH bsF hr hd hK
  simp only [ng, Array.toArray_toList] at h
  exact wpAny_done h.1 (hK _ _ ⟨s, R, N, bsT, bsL, bsH, h.2, hr, hd, bg _, fun _ _ h => h⟩) F
 | succ m ih =>
  intro F listed s h hF w R N act bsT bsL bsH bsF hr hd hK
  simp only [ng, Array.toArray_toList] at h
  rcases h with h | ⟨hne, hall⟩
  ·exact wpAny_done h.1 (hK _ _ ⟨s, R, N, bsT, bsL, bsH, h.2, hr, hd, bg _, fun _ _ h => h⟩) F
  obtain ⟨F', rfl⟩ : ∃ F', F = F' + 1 := ⟨F - 1, by omega⟩
  refine wpAny_all (rs := Region.ready .any ops listed) rfl hne ?_
  intro j hj
  obtain ⟨o, ho, h2⟩ := hall j hj
  refine wpOp_mono ?_ (iH hE ops (by simpa using ho) h2 hr hd)
  rintro a' w' ⟨s', R', N', bsT', bsL', bsH', hq, hr', hd', hk', hN'⟩
  exact ih F' _ s' hq (by omega) w' R' N' a' bsT' bsL' bsH' bsF hr' hd' (fun a2 w2 h2 => hK a2 w2 (h2.trans hk' hN'))
theorem rl : ∀ (r : List (Nat × Bool)), (bL r).length <= r.length
 | [] => by simp [bL]
 |(i, true) :: r => by simp [bL]
 |(i, false) :: r => by simp only [bL, List.length_cons]; have := rl r; omega
theorem xF : ∀ (r : List (Nat × Bool)) (l : Array Bool) {n : Nat}, l.size = n -> (∀ y ∈ r, y.1 < n) -> ∀ x ∈ r, (dI r l)[x.1]? = some true
 | [], _, _, _, _, x, hx => by simp at hx
 |(i, b) :: r, l, n, hn, hlt, x, hx => by
  have hs : (bK l i).size = n := by simpa [bK] using hn
  rcases List.mem_cons.1 hx with rfl | hx
  ·have : i < l.size := by rw [hn]; exact hlt (i, b) (by simp)
   exact kJ r (bK l i) i (by simp [bK, this])
  exact xF r (bK l i) hs (fun y hy => hlt y (by simp [hy])) x hx
/-- A region that draws its order. -/
theorem zl (hE : E.Ok P) (hm : P.follows .mixedOrders = true) {id : Nat} {ops : Array Oper} {h : az} {Q : Exit -> aa -> Prop} {s : aa} (hc : (fG h || (if fZ h = true then OM ops (fj h) else (UI ops h || Ge ops h))) = true) (hs : zj (aB P G) E G H ops.toList h (Q .normal) s) : df P G (.region id ops true) Q s := by
 by_cases hx : fG h = true
 ·intro w R N act bsT bsL bsH bsF hr D hd
  unfold zj at hs
  rw [if_pos hx, Array.length_toList] at hs
  apply wp_region_any hm
  have hst : Step w R { w with drawn := w.drawn + 1 } R := ⟨rfl, rfl, rfl, Nat.le_refl _, fun _ _ h => ⟨rfl, h⟩, fun _ _ _ h => ⟨h, rfl⟩, fun _ _ => rfl⟩
  have hkeep : ∀ bs, bz w R { w with drawn := w.drawn + 1 } R bs := fun bs => ⟨hst, fun _ _ _ => ⟨rfl, fun _ h => h⟩⟩
  have hr' : cR G { w with drawn := w.drawn + 1 } R N act.tmps.toList s undef .undef [] bsT bsL bsH bsF :=
   ⟨aP _, hr.tmps.keep (hkeep _), hr.locs.keep (hkeep _), hr.heap.keep (hkeep _), hr.nodup, hr.next, fun g cs hg => (hr.glob g cs hg).step hst, hr.frame⟩
  refine E6 hE ops.size ops.size _ s hs (Nat.le_refl _) _ R N act bsT bsL bsH bsF hr' hd ?_
  rintro a' w' ⟨s', R', N', bsT', bsL', bsH', ⟨s0, hq, hren⟩, hr2, hd', hk', hN'⟩
  obtain ⟨N2, bsT2, bsL2, bsH2, hr3, hN2⟩ := hren _ _ _ _ _ _ _ _ hr2
  exact ⟨s0, R', N2, bsT2, bsL2, bsH2, hq, hr3, hd', (hkeep _).trans hk', fun o b hb => hN2 o b (hr.next o b hb) (hN' o b hb)⟩
 have hxf : fG h = false := by simpa using hx
 rw [hxf, Bool.false_or] at hc
 unfold zj at hs
 rw [if_neg hx] at hs
 by_cases hlm : fZ h = true
 ·rw [if_pos hlm] at hc hs
  obtain ⟨h', hh'⟩ : ∃ h', h' = fj h := ⟨_, rfl⟩
  rw [← hh'] at hc hs
  clear hlm hx hxf hh'
  intro w R N act bsT bsL bsH bsF hr D hd
  unfold OM at hc
  simp only [Bool.and_eq_true, decide_eq_true_eq] at hc
  obtain ⟨⟨⟨⟨⟨⟨⟨hpre, hlast⟩, htail⟩, hslots⟩, happ⟩, hstores⟩, hlen⟩, hidx⟩ := hc
  apply wp_region_any hm
  unfold zi at hs
  rw [Array.length_toList] at hs
  have hql : (bL h'.pre).length <= h'.pre.length := rl h'.pre
  have hclo : fX ops (Array.replicate ops.size false) := fun d o hd => by
   rw [Array.getElem?_replicate] at hd
   split at hd <;> simp at hd
  have hall : ∀ x ∈ h'.pre, (dI h'.pre (Array.replicate ops.size false))[x.1]? = some true := fun x hx => xF h'.pre _ (n := ops.size) (by simp) (fun y hy => by have := List.all_eq_true.1 hidx y hy; simpa using this) x hx
  have hord := oF (P := P) (E := E) (G := G) (H := H) hslots happ hstores hlast hall (h'.pre.length - (bL h'.pre).length) (bL h'.pre) (Array.replicate ops.size false) s (fun _ h => rk h) (by simp) hclo hpre (fun s' h => pX _ _ _ h) hs
  have hst : Step w R { w with drawn := w.drawn + 1 } R := ⟨rfl, rfl, rfl, Nat.le_refl _, fun _ _ h => ⟨rfl, h⟩, fun _ _ _ h => ⟨h, rfl⟩, fun _ _ => rfl⟩
  have hkeep : ∀ bs, bz w R { w with drawn := w.drawn + 1 } R bs := fun bs => ⟨hst, fun _ _ _ => ⟨rfl, fun _ h => h⟩⟩
  have hr' : cR G { w with drawn := w.drawn + 1 } R N act.tmps.toList s undef .undef [] bsT bsL bsH ([] ++ bsF) :=
   ⟨aP _, hr.tmps.keep (hkeep _), hr.locs.keep (hkeep _), hr.heap.keep (hkeep _), hr.nodup, hr.next, fun g cs hg => (hr.glob g cs hg).step hst, hr.frame⟩
  have hnone : ∀ (i : Nat), (Array.replicate ops.size false)[i]? ≠ some true := by
   intro i hi
   rw [Array.getElem?_replicate] at hi
   split at hi <;> simp at hi
  refine vr hE hslots happ hstores hall htail _ ops.size _ s (by omega) (by simp) hclo hord _ R N act bsT bsL bsH [] bsF ⟨hr', ?_, ?_⟩ hd ?_
  ·intro i o t d ti _ hl
   exact absurd hl (hnone i)
  ·intro i o T u t n off ob _ hl
   exact absurd hl (hnone i)
  intro a' w' h'
  exact h'.trans (hkeep _) (fun _ _ h => h)
 rw [if_neg hlm] at hc hs
 rw [Bool.or_eq_true] at hc
 rcases hc with hc | hc
 rotate_left
 ·exfalso
  unfold Ge at hc
  simp only [Bool.and_eq_true, List.isEmpty_iff] at hc
  obtain ⟨h1, h2⟩ := hc
  rw [h1] at hs
  simp only [kX] at hs
  split at h2
  ·rename_i k hk
   rw [hk] at hs
   have : ops.toList[k]? = none := by simpa using h2
   simp only [gJ, this] at hs
  simp at h2
 intro w R N act bsT bsL bsH bsF hr D hd
 unfold UI at hc
 simp only [Bool.and_eq_true, decide_eq_true_eq] at hc
 obtain ⟨⟨⟨⟨⟨⟨⟨_, hpre⟩, hlast⟩, htail⟩, hslots⟩, happ⟩, hstores⟩, hlen⟩ := hc
 apply wp_region_any hm
 have hord := oG (P := P) (E := E) (G := G) (H := H) hslots happ hstores hlast h.pre (Array.replicate ops.size false) s h.pre.length (fun _ h => h) (by simp) (fun d o hd => by rw [Array.getElem?_replicate] at hd; split at hd <;> simp at hd) rfl hpre (Nat.le_refl _) hs
 have hst : Step w R { w with drawn := w.drawn + 1 } R := ⟨rfl, rfl, rfl, Nat.le_refl _, fun _ _ h => ⟨rfl, h⟩, fun _ _ _ h => ⟨h, rfl⟩, fun _ _ => rfl⟩
 have hkeep : ∀ bs, bz w R { w with drawn := w.drawn + 1 } R bs := fun bs => ⟨hst, fun _ _ _ => ⟨rfl, fun _ h => h⟩⟩
 have hr' : cR G { w with drawn := w.drawn + 1 } R N act.tmps.toList s undef .undef [] bsT bsL bsH ([] ++ bsF) :=
  ⟨aP _, hr.tmps.keep (hkeep _), hr.locs.keep (hkeep _), hr.heap.keep (hkeep _), hr.nodup, hr.next, fun g cs hg => (hr.glob g cs hg).step hst, hr.frame⟩
 have hnone : ∀ (i : Nat), (Array.replicate ops.size false)[i]? ≠ some true := by
  intro i hi
  rw [Array.getElem?_replicate] at hi
  split at hi <;> simp at hi
 refine vr hE hslots happ hstores (pR h.pre _ hpre (by simp)) htail h.pre.length ops.size _ s hlen (by simp) (fun d o hd => by rw [Array.getElem?_replicate] at hd; split at hd <;> simp at hd) hord _ R N act bsT bsL bsH [] bsF ⟨hr', ?_, ?_⟩ hd ?_
 ·intro i o t d ti _ hl
  exact absurd hl (hnone i)
 ·intro i o T u t n off ob _ hl
  exact absurd hl (hnone i)
 intro a' w' h'
 exact h'.trans (hkeep _) (fun _ _ h => h)
end
end Go.Tp

namespace Go.Tp
section
variable {P : Program} {E : bq} {G : bE} {H : Hints} {D : List Deferred}
theorem Be.trans {Q : Exit -> aa -> Prop} {w w1 : World} {R R1 : Own} {N N1 : Name -> Option Nat} {bsF : List Nat} (hk : bz w R w1 R1 bsF) (hN : ∀ o b, N (.out o) = some b -> N1 (.out o) = some b) {e : Exit} {a : Act} {w2 : World}
  (h : Be G D Q w1 R1 N1 bsF e a w2) : Be G D Q w R N bsF e a w2 := by
 obtain ⟨s', R', N', bsT, bsL, bsH, hq, hr, hd, hk', hN'⟩ := h
 exact ⟨s', R', N', bsT, bsL, bsH, hq, hr, hd, hk.trans hk', fun o b h => hN' o b (hN o b h)⟩
theorem Ba {x y : Code} {Q : Exit -> aa -> Prop} {s : aa} (h : df P G x (fun e s' => match e with | .normal => df P G y Q s' | e => Q e s') s) : df P G (.seq x y) Q s := by
 intro w R N act bsT bsL bsH bsF hr D hd
 apply wp_seq
 refine wp_mono (h w R N act bsT bsL bsH bsF hr hd) ?_
 rintro e a w' ⟨s', R', N', bsT', bsL', bsH', hq, hr', hd', hk, hN⟩
 cases e with
 | normal => exact wp_mono (hq w' R' N' a bsT' bsL' bsH' bsF hr' hd') (fun e a w h => h.trans hk hN)
 | _ => exact ⟨s', R', N', bsT', bsL', bsH', hq, hr', hd', hk, hN⟩
theorem df.mono {c : Code} {Q Q' : Exit -> aa -> Prop} {s : aa} (h : df P G c Q s) (hq : ∀ e s, Q e s -> Q' e s) : df P G c Q' s := by
 intro w R N act bsT bsL bsH bsF hr D hd
 refine wp_mono (h w R N act bsT bsL bsH bsF hr hd) ?_
 rintro e a w' ⟨s', R', N', bsT', bsL', bsH', hQ, rest⟩
 exact ⟨s', R', N', bsT', bsL', bsH', hq _ _ hQ, rest⟩
theorem fK {c : Code} {e : Exit} {Q : Exit -> aa -> Prop} {s : aa} (hc : ∀ {Q : Exit -> Act -> World -> Prop} {a : Act} {w : World}, Q e a w -> c.wp P Q a w) (h : Q e s) : df P G c Q s := by
 intro w R N act bsT bsL bsH bsF hr D hd
 exact hc ⟨s, R, N, bsT, bsL, bsH, h, hr, hd, bg _, fun _ _ h => h⟩
/-! #### Results -/
theorem KY {w : World} {R : Own} {N : Name -> Option Nat} {a : ae} {v : Value} {bs : List Nat} (h : ak w R N a v bs) : ∃ bs', ak w R N (tidy a) v bs' /\ bs'.Sublist bs := by
 unfold tidy
 split
 ·exact ⟨[], oM h, List.nil_sublist _⟩
 exact ⟨bs, h, .refl _⟩
theorem zN {w : World} {R : Own} {N : Name -> Option Nat} : ∀ {as : List ae} {vs : List Value} {bs : List Nat}, aj w R N as vs bs -> ∃ bs', aj w R N (iS as) vs bs' /\ bs'.Sublist bs
 | [], _, _, h => by obtain ⟨rfl, rfl⟩ := bb h; exact ⟨[], aV, .refl _⟩
 | a :: as, _, _, h => by
  obtain ⟨v, vs', b1, b2, rfl, rfl, h1, h2⟩ := aD h
  obtain ⟨c1, k1, k2⟩ := KY h1
  obtain ⟨c2, k3, k4⟩ := zN h2
  exact ⟨c1 ++ c2, by simpa [iS] using aG k1 k3, List.Sublist.append k2 k4⟩
/-- What one result reads as. -/
def te (tmps : Array Value) : ResultVar -> Sem Value
 | .tmp t => pure (tmps.getD t undef)
 | .cell a t => do loadVar t (← asAddr (tmps.getD a undef))
theorem lf (hE : E.Ok P) {w : World} {R : Own} {N : Name -> Option Nat} {act : Act} (hg : ∀ g cs, G g = some cs -> dG w R g 0 cs) : ∀ (rs : List ResultVar) {s : aa} {vs : List ae} {bsT bsL bsH rest : List Nat}, gk E s rs = some vs ->
  aj w R N s.tmps act.tmps.toList bsT -> an w R N s.locs bsL -> an w R (outs N) s.heap bsH -> (bsT ++ rest).Nodup ->
  ∃ cvs bsM bsT', (rs.mapM (te act.tmps)).run P w = .ok cvs w /\ aj w R N vs cvs bsM /\ cvs.length = rs.length /\ (bsM ++ (bsT' ++ rest)).Nodup
 | [], s, vs, bsT, bsL, bsH, rest, h, ht, _, _, hnd => by
  simp [gk] at h
  subst h
  exact ⟨[], [], bsT, by simp, aV, rfl, by simpa using hnd⟩
 | .tmp t :: rs, s, vs, bsT, bsL, bsH, rest, h, ht, hl, hh, hnd => by
  simp only [gk] at h
  split at h
  ·rename_i vs' hvs
   simp at h
   subst h
   obtain ⟨bM, bT, h1, h2, h3, _⟩ := pw ht hg (some 0) [.tmp t] rest hnd
   obtain ⟨b0, e0, hb0⟩ := dh h1
   simp only [aJ, if_true, List.cons.injEq, and_true] at e0
   subst e0
   obtain ⟨q1, q2, _⟩ := po s (some 0) [.tmp t]
   have hnd2 : (bT ++ (bM ++ rest)).Nodup := by
    have hp : (bT ++ (bM ++ rest)).Perm (bM ++ (bT ++ rest)) := List.perm_append_comm_assoc _ _ _
    exact hp.nodup_iff.2 h3
   obtain ⟨cvs, bM2, bT2, k1, k2, k3, k4⟩ := lf hE hg rs hvs h2 (by rw [q1]; exact hl) (by rw [q2]; exact hh) hnd2
   refine ⟨act.eval (.tmp t) :: cvs, bM ++ bM2, bT2, ?_, aG hb0 k2, by simp [k3], ?_⟩
   ·simp only [List.mapM_cons, Sem.run_bind, te, Sem.run_pure, Result.andThen_ok, k1]
    rfl
   have hp : ((bM ++ bM2) ++ (bT2 ++ rest)).Perm (bM2 ++ (bT2 ++ (bM ++ rest))) := by
    rw [List.perm_iff_count]; intro q; simp only [List.count_append]; omega
   exact hp.nodup_iff.2 k4
  simp at h
 | .cell a t :: rs, s, vs, bsT, bsL, bsH, rest, h, ht, hl, hh, hnd => by
  simp only [gk] at h
  split at h
  ·rename_i v vs' hv hvs
   simp at h
   subst h
   obtain ⟨cvs, bM2, bT2, k1, k2, k3, k4⟩ := lf hE hg rs hvs ht hl hh hnd
   unfold wq at hv
   split at hv
   ·rename_i n off hp
    split at hv
    ·rename_i cs i hob hty
     have hget : s.tmps[a]? = some (.ptr n off) := by
      unfold bp at hp
      cases hs : s.tmps[a]? with
      | none => rw [hs] at hp; simp at hp
      | some v => rw [hs] at hp; simp at hp; rw [hp]
     obtain ⟨u, b', e1, e2, _⟩ := dQ ht hget
     simp only [ak] at e2
     obtain ⟨_, b, hb, rfl⟩ := e2
     have hobj : ∃ b1, aQ w R N (.cells cs) b b1 := by
      unfold aa.obj at hob
      cases n with
      | loc j =>
       obtain ⟨pre, c, c1, post, _, f2, f3, _⟩ := an.split hl hob
       rw [hb] at f2; simp at f2; subst f2; exact ⟨c1, f3⟩
      | out j =>
       obtain ⟨pre, c, c1, post, _, f2, f3, _⟩ := an.split hh hob
       simp only [outs] at f2
       rw [hb] at f2; simp at f2; subst f2
       refine ⟨c1, f3.vO ?_ (fun _ => rfl)⟩
       obtain ⟨vs, e, sp, _, hrr, _⟩ := f3
       have := hrr.bW
       rw [iq] at this
       exact this
     obtain ⟨b1, vs0, el, sp, hblk, hrr, _⟩ := hobj
     obtain ⟨cv, g1, g2⟩ := mf (N := N) hE hty hblk hrr (lk hv)
     refine ⟨cv :: cvs, [] ++ bM2, bT2, ?_, aG g2 k2, by simp [k3], by simpa using k4⟩
     have hgd : act.tmps.getD a undef = .pointer (some ⟨b, off, none⟩) := by simp at e1; simp [e1]
     have g1' : (loadVar t ⟨b, off, none⟩).run P w = .ok cv w := by simpa [Instr.loadAt, Instr.sureAddr] using g1
     simp only [List.mapM_cons, Sem.run_bind, te, hgd, asAddr, Sem.run_pure, Result.andThen_ok, g1', k1]
    simp at hv
   simp at hv
  simp at h
def HQ : List Value -> Value
 | [v] => v
 | vs => .tuple vs.toArray
theorem Dk {fn : Func} {act : Act} {w : World} {cvs : List Value} (h : (fn.results.toList.mapM (te act.tmps)).run P w = .ok cvs w) :
  (results fn act.tmps).run P w = .ok (HQ cvs) w := by
 have hres : results fn act.tmps = (do
   let vs ← fn.results.mapM (te act.tmps)
   pure (if h : vs.size = 1 then vs[0] else .tuple vs)) := rfl
 have e : (fn.results.mapM (te act.tmps)).run P w = .ok cvs.toArray w := by
  rw [Array.mapM_eq_mapM_toList]
  simp [h]
 rw [hres]
 simp only [Sem.run_bind, e, Result.andThen_ok]
 cases cvs with
 | nil => rfl
 | cons v cvs => cases cvs <;> rfl
theorem jC {w : World} : ∀ (ns : List Name) {s s' : aa} {args args' : List ae} {R : Own} {N : Name -> Option Nat}, gu ns s args = (s', args') -> ∀ {tmps : List Value} {cargs : List Value} {bsV bsT bsL bsH bsF : List Nat},
  cR G w R N tmps s (.tuple cargs.toArray) (.tup args) bsV bsT bsL bsH bsF ->
  ∃ R' N' bsV' bsT' bsL' bsH', cR G w R' N' tmps s' (.tuple cargs.toArray) (.tup args') bsV' bsT' bsL' bsH' bsF /\ bz w R w R' bsF /\ (∀ o b, N (.out o) = some b -> N' (.out o) = some b)
 | [], s, s', args, args', R, N, h, tmps, cargs, bsV, bsT, bsL, bsH, bsF, hr => by
  simp [gu] at h
  obtain ⟨rfl, rfl⟩ := h
  exact ⟨R, N, bsV, bsT, bsL, bsH, hr, bg _, fun _ _ h => h⟩
 | n :: ns, s, s', args, args', R, N, h, tmps, cargs, bsV, bsT, bsL, bsH, bsF, hr => by
  simp only [gu] at h
  split at h
  ·split at h
   ·rename_i s1 args1 h1
    obtain ⟨R1, N1, v1, t1, l1, g1, hr1, hk1, hN1, _⟩ := uH h1 hr
    obtain ⟨R2, N2, v2, t2, l2, g2, hr2, hk2, hN2⟩ := jC ns h hr1
    exact ⟨R2, N2, v2, t2, l2, g2, hr2, hk1.trans hk2, fun o b h => hN2 o b (hN1 o b h)⟩
   exact jC ns h hr
  exact jC ns h hr
theorem DF {w : World} {R : Own} {N : Name -> Option Nat} {vs : List ae} {cvs : List Value} {bs : List Nat} (h : aj w R N vs cvs bs) : ak w R N (pack vs) (HQ cvs) bs := by
 cases vs with
 | nil =>
  obtain ⟨rfl, rfl⟩ := bb h
  simp only [pack, HQ, ak]
  exact ⟨[], rfl, aV⟩
 | cons a vs =>
  have hl := h.length
  cases vs with
  | nil =>
   cases cvs with
   | nil => simp at hl
   | cons v cvs =>
    simp at hl
    subst hl
    obtain ⟨a', e, ha⟩ := dh h
    simp at e
    subst e
    exact ha
  | cons a2 vs =>
   cases cvs with
   | nil => simp at hl
   | cons v cvs =>
    cases cvs with
    | nil => simp at hl
    | cons v2 cvs => simp only [pack, HQ, ak]; exact ⟨_, rfl, h⟩
theorem xI {vs : List ae} (h : bF vs = true) : fe (pack vs) = true := by
 unfold pack
 split
 ·simpa [bF] using h
 simpa [fe] using h
/-- The end of a function, in the world. -/
theorem Hi (hE : E.Ok P) {fn : Func} {Q : ae -> List (Name × aN) -> Nat -> Prop} {s : aa} (h : vJ E fn.results.toList Q s) {w : World} {R : Own} {N : Name -> Option Nat} {act : Act} {bsT bsL bsH bsF : List Nat}
  (hr : cR G w R N act.tmps.toList s undef .undef [] bsT bsL bsH bsF) :
  ∃ cv, (results fn act.tmps).run P w = .ok cv w /\ ∃ v heap' next' R' N' bsV bsH', Q v heap' next' /\ ak w R' (outs N') v cv bsV /\ an w R' (outs N') heap' bsH' /\ (bsV ++ (bsH' ++ bsF)).Nodup ∧
   (∀ o b, N' (.out o) = some b -> o < next') /\ bz w R w R' bsF /\ (∀ o b, N (.out o) = some b -> N' (.out o) = some b) := by
 unfold vJ at h
 split at h
 ·exact h.elim
 rename_i vs hvs
 have hnd0 : (bsT ++ (bsL ++ (bsH ++ bsF))).Nodup := by simpa using hr.nodup
 obtain ⟨cvs, bsM, bsT', k1, k2, k3, k4⟩ := lf hE hr.glob fn.results.toList hvs hr.tmps hr.locs hr.heap hnd0
 obtain ⟨bsM', k5, k6⟩ := zN k2
 refine ⟨_, Dk k1, ?_⟩
 split at h
 ·rename_i hno
  refine ⟨_, _, _, R, N, bsM', bsH, h, (DF k5).Hs (xI hno), hr.heap, ?_, hr.next, bg _, fun _ _ h => h⟩
  refine List.Nodup.sublist ?_ k4
  exact List.Sublist.append k6 ((List.sublist_append_right _ _).trans (List.sublist_append_right _ _))
 split at h
 rename_i s' vs' hexp
 split at h
 ·rename_i hno
  -- the slots are no longer needed: a state without them
  have hr1 : cR G w R N [] { s with tmps := [] } (.tuple cvs.toArray) (.tup (iS vs)) bsM' [] bsL bsH bsF :=
   ⟨by simp only [ak]; exact ⟨cvs, rfl, k5⟩, aV, hr.locs, hr.heap, by
    refine List.Nodup.sublist ?_ k4
    exact List.Sublist.append k6 (by simp), hr.next, hr.glob, hr.frame⟩
  have hexp' : ∀ (ns : List Name) (s1 s2 : aa) (a1 a2 : List ae), gu ns s1 a1 = (s2, a2) -> gu ns { s1 with tmps := [] } a1 = ({ s2 with tmps := [] }, a2) := by
   intro ns
   induction ns with
   | nil => intro s1 s2 a1 a2 h; simp only [gu, Prod.mk.injEq] at h ⊢; obtain ⟨rfl, rfl⟩ := h; exact ⟨rfl, rfl⟩
   | cons n ns ih =>
    intro s1 s2 a1 a2 h
    simp only [gu] at h ⊢
    split at h
    ·rename_i hm
     rw [if_pos hm]
     have hp : rq true n { s1 with tmps := [] } a1 = (rq true n s1 a1).map (fun x => ({ x.1 with tmps := [] }, x.2)) := by
      unfold rq
      dsimp only
      split
      ·split
       ·simp [gr]
       split <;> simp [dS]
      ·simp [dS]
      simp
     rw [hp]
     split at h
     ·rename_i s3 a3 h3
      rw [h3]
      exact ih s3 s2 a3 a2 h
     rename_i h3
     rw [h3]
     exact ih s1 s2 a1 a2 h
    rename_i hm
    rw [if_neg hm]
    exact ih s1 s2 a1 a2 h
  obtain ⟨R2, N2, v2, t2, l2, g2, hr2, hk2, hN2⟩ := jC _ (hexp' _ _ _ _ _ hexp) hr1
  have hv := hr2.val
  simp only [ak] at hv
  obtain ⟨cs0, ec, hargs⟩ := hv
  simp at ec
  subst ec
  refine ⟨_, _, _, R2, N2, v2, g2, h, (DF hargs).Hs (xI hno), hr2.heap, ?_, hr2.next, hk2, hN2⟩
  refine List.Nodup.sublist ?_ hr2.nodup
  exact List.Sublist.append (.refl _) ((List.sublist_append_right _ _).trans (List.sublist_append_right _ _))
 exact h.elim
theorem uA {w : World} {R : Own} {N : Name -> Option Nat} : ∀ (k : Nat), aj w R N (List.replicate k .undef) (List.replicate k undef) []
 | 0 => aV
 | k + 1 => by simpa [List.replicate_succ] using aG (b1 := []) (b2 := []) (aP (w := w) (R := R) (N := N) undef) (uA k)
/-- A function's contract out of its body. -/
theorem jo (hE : E.Ok P) {f : FuncId} {fn : Func} {c : Code} (hf : P.funcs[f]? = some fn) (hb : fn.body = some c) {args : List ae} {heap : List (Name × aN)} {next : Nat} {Q : ae -> List (Name × aN) -> Nat -> Prop}
  (h : pF args -> vI heap -> df P G c (Xn E fn.results.toList Q) (enter fn.ntmps args heap next)) : aB P G f args heap next Q := by
 intro w R N cargs bsA bsH bsF ha hh hnd hnx hg hF
 replace h := h ha.oz hh.oz
 refine calls_of_wp hf hb ?_
 have hlen := ha.length
 have hr : cR G w R (outs N) ((cargs.toArray ++ Array.replicate (fn.ntmps - cargs.toArray.size) undef).toList) (enter fn.ntmps args heap next) undef .undef [] bsA [] bsH bsF := by
  refine ⟨aP _, ?_, rfl, ?_, by simpa using hnd, ?_, hg, hF⟩
  ·have := cA ha (uA (w := w) (R := R) (N := outs N) (fn.ntmps - args.length))
   simpa [enter, hlen] using this
  ·exact hh.ext (fun m b hm => by cases m with | loc i => simp [outs] at hm | out o => exact hm)
  intro o b ho; exact hnx o b ho
 refine wp_mono (h w R (outs N) _ bsA [] bsH bsF hr rfl) ?_
 rintro e a w' ⟨s', R', N', bsT, bsL, bsH', hq, hr', hd', hk, hN⟩
 have key : vJ E fn.results.toList Q s' -> a.defers = [] /\ ∃ v, (results fn a.tmps).run P w' = .ok v w' /\ (∃ v2 cv heap' next' R'' N'' bsV bsH'', Ending.returned v = .returned cv /\ Q v2 heap' next' /\ ak w' R'' (outs N'') v2 cv bsV /\ an w' R'' (outs N'') heap' bsH'' ∧
   (bsV ++ (bsH'' ++ bsF)).Nodup /\ (∀ o b, N'' (.out o) = some b -> o < next') /\ bz w R w' R'' bsF /\ (∀ o b, N (.out o) = some b -> N'' (.out o) = some b)) := by
  intro hret
  obtain ⟨cv, g1, v2, heap', next', R'', N'', bsV, bsH'', q1, q2, q3, q4, q5, q6, q7⟩ := Hi hE hret hr'
  exact ⟨hd', cv, g1, v2, cv, heap', next', R'', N'', bsV, bsH'', rfl, q1, q2, q3, q4, q5, hk.trans q6, fun o b h => q7 o b (hN o b h)⟩
 cases e with
 | ret => exact key hq
 | normal => exact key hq
 | exit i => exact hq.elim
 | goto l => exact hq.elim
 | panic ch => exact hq.elim
 | outgrown => exact hq.elim
/-! #### Tables -/
inductive Tr where
 |nil
 |node (l : Tr) (k : Nat) (v : TI) (r : Tr)
def Tr.find : Tr -> Nat -> Option TI
 | .nil, _ => none
 | .node l k v r, t => match Nat.blt t k with
  | true => l.find t
  | false => (match Nat.blt k t with | true => r.find t | false => some v)
def Tr.Fb (P : Program) : Tr -> Prop
 | .nil => True
 | .node l k v r => l.Fb P /\ v.ok P k /\ r.Fb P
theorem Tr.all_nil {P : Program} : Tr.Fb P .nil := trivial
theorem Tr.al {P : Program} {l r : Tr} {k : Nat} {v : TI} (hl : l.Fb P) (hv : v.ok P k) (hr : r.Fb P) : Tr.Fb P (.node l k v r) := ⟨hl, hv, hr⟩
theorem Tr.Ck {P : Program} : ∀ {tr : Tr}, tr.Fb P -> ∀ {t : Nat} {i : TI}, tr.find t = some i -> i.ok P t
 | .nil, _, t, i, h => by simp [Tr.find] at h
 | .node l k v r, ⟨hl, hv, hr⟩, t, i, h => by
  simp only [Tr.find] at h
  cases h1 : Nat.blt t k with
  | true => rw [h1] at h; exact Tr.Ck hl h
  | false =>
   rw [h1] at h
   cases h2 : Nat.blt k t with
   | true => rw [h2] at h; exact Tr.Ck hr h
   | false =>
    rw [h2] at h
    have h1' : ¬ t < k := fun h => by rw [← Nat.blt_eq, h1] at h; simp at h
    have h2' : ¬ k < t := fun h => by rw [← Nat.blt_eq, h2] at h; simp at h
    have : t = k := by omega
    subst this
    simp at h
    subst h
    exact hv
def Ut (P : Program) (f : FuncId) : Bool := match P.funcs[f]? with
 | some g => g.body.isSome && !(g.name == "runtime.NumGoroutine")
 | none => false
/-! #### Forgetting; loops -/
theorem wp_loop_ghost {c : Code} {Q : Exit -> Act -> World -> Prop} (I : Nat -> Act -> World -> Prop) {n0 : Nat} {a : Act} {w : World} (h0 : I n0 a w)
  (round : ∀ n a w, I n a w -> c.wp P (Exit.then (fun a' w' => ∃ n', n' < n /\ I n' a' w') Q) a w) : (Code.loop c).wp P Q a w := by
 intro b k cs
 have key : ∀ n a w, I n a w -> ∃ e a' w', Q e a' w' /\ Arrives P (lone (b.at a (.code c :: .inLoop c :: k)) cs w) b k cs e a' w' := by
  intro n
  induction n using Nat.strongRecOn with
  | _ n ih =>
   intro a w hI
   obtain ⟨e, a1, w1, hq, harr⟩ := round n a w hI b (.inLoop c :: k) cs
   cases e with
   | normal =>
    obtain ⟨n', hlt, hI1⟩ := hq
    obtain ⟨e2, a2, w2, hq2, harr2⟩ := ih n' hlt a1 w1 hI1
    exact ⟨e2, a2, w2, hq2, .of_steps (Steps.trans harr (.one step_inLoop)) harr2⟩
   | exit id => exact ⟨_, a1, w1, hq, .pass (x := .inLoop c) rfl (fun _ _ => .inl (by simp)) harr⟩
   | goto l => exact ⟨_, a1, w1, hq, .pass (x := .inLoop c) rfl (fun _ _ => .inl (by simp)) harr⟩
   | ret => exact ⟨_, a1, w1, hq, .pass (x := .inLoop c) rfl (fun _ _ => .inl (by simp)) harr⟩
   | panic ch => exact ⟨_, a1, w1, hq, .pass (x := .inLoop c) rfl (fun _ _ => .inl (by simp)) harr⟩
   | outgrown => exact ⟨_, a1, w1, hq, .pass (x := .inLoop c) rfl (fun _ _ => .inl (by simp)) harr⟩
 obtain ⟨e, a', w', hq, harr⟩ := key n0 a w h0
 exact ⟨e, a', w', hq, .of_steps (.one step_loop) harr⟩
end
end Go.Tp

namespace Go.Tp
abbrev iv (n : Int) : ae := .dat (.flat (.int .i64 n))
abbrev bv (b : Bool) : ae := .dat (.flat (.bool b))
abbrev Heap := List (Name × aN)
/-! ### What a call leaves behind and nobody names -/
section
variable {w w' : World} {R R' : Own} {M M' M'' : Name -> Option Nat}
end
section
variable {P : Program} {G : bE} {H : Hints} {Ef : ay -> bq} {A : CI} {C : Sw} {pr : ay}
section
variable {wrap : IntKind -> Int -> Int} {add dif mul : IntKind -> Int -> Int -> Int} {lt eq : Int -> Int -> Bool} {slt seq : ByteArray -> ByteArray -> Bool} {cat : ByteArray -> ByteArray -> Option ByteArray} {elt : List aq -> Int -> Option aq} {byte : ByteArray -> Int -> Option UInt8}
 {sub : Nat -> List aq -> Option Int -> Option Int -> Option (List aq)} {ssub : ByteArray -> Option Int -> Option Int -> Option ByteArray} {app : Nat -> Nat -> List aq -> List aq -> Option (List aq)}
 {key : TypeDesc -> Value -> List (Value × aq) -> Option (Option (Nat × aq))} {len : List aq -> Nat} {slen : ByteArray -> Nat} {rem quo mx : Int -> Int -> Int}
end
end
theorem wrap_i64 {n : Int} (h1 : -9223372036854775808 <= n) (h2 : n <= 9223372036854775807) : IntKind.i64.wrap n = n := by
 simp [IntKind.wrap, IntKind.signed, IntKind.bits]
 omega
end Go.Tp

namespace Go.Tp
/-! ### Equal values and objects -/
def Ps : Value -> Value -> Bool
 | .int k n, .int k' n' => decide (k = k') && eqZ n n'
 | .string s, .string s' => eqY s.data.toList s'.data.toList
 | .bool b, .bool b' => (match b, b' with | true, true => true | false, false => true | _, _ => false)
 | .pointer none, .pointer none => true
 | .map none, .map none => true
 | .nilFunc, .nilFunc => true
 | .nilIface, .nilIface => true
 | .slice none 0 0, .slice none 0 0 => true
 | _, _ => false
where
 eqZ : Int -> Int -> Bool
  | .ofNat a, .ofNat b => Nat.beq a b
  | .negSucc a, .negSucc b => Nat.beq a b
  | _, _ => false
 eqY : List UInt8 -> List UInt8 -> Bool
  | [], [] => true
  | a :: l, b :: r => (match Nat.beq a.toNat b.toNat with | true => eqY l r | false => false)
  | _, _ => false
theorem Oa {a b : Int} (h : Ps.eqZ a b = true) : a = b := by
 unfold Ps.eqZ at h
 split at h
 ·rw [Nat.eq_of_beq_eq_true h]
 ·rw [Nat.eq_of_beq_eq_true h]
 simp at h
theorem EC : ∀ {a b : List UInt8}, Ps.eqY a b = true -> a = b
 | [], [], _ => rfl
 | [], _ :: _, h => by simp [Ps.eqY] at h
 | _ :: _, [], h => by simp [Ps.eqY] at h
 | a :: l, b :: r, h => by
  unfold Ps.eqY at h
  split at h
  ·rename_i hab
   rw [UInt8.toNat_inj.1 (Nat.eq_of_beq_eq_true hab), EC h]
  simp at h
theorem ED {a b : Value} (h : Ps a b = true) : a = b := by
 unfold Ps at h
 split at h
 ·simp only [Bool.and_eq_true, decide_eq_true_eq] at h
  rw [h.1, Oa h.2]
 ·rename_i s s'
  obtain ⟨⟨l⟩⟩ := s
  obtain ⟨⟨l'⟩⟩ := s'
  have := EC h
  simp at this
  rw [this]
 ·split at h <;> simp at h ⊢
 all_goals first | rfl | simp at h
mutual
def Kd : aq -> aq -> Bool
 | .flat v, .flat u => Ps v u
 | .slice es, .slice fs => tP es fs
 | .agg es, .agg fs => tP es fs
 | _, _ => false
def tP : List aq -> List aq -> Bool
 | [], [] => true
 | a :: l, b :: r => (match Kd a b with | true => tP l r | false => false)
 | _, _ => false
end
mutual
theorem yB : ∀ {a b : aq}, Kd a b = true -> a = b
 | .flat v, .flat u, h => by simp only [Kd] at h; rw [ED h]
 | .slice es, .slice fs, h => by simp only [Kd] at h; rw [lR h]
 | .agg es, .agg fs, h => by simp only [Kd] at h; rw [lR h]
 | .flat _, .slice _, h => by simp [Kd] at h
 | .flat _, .agg _, h => by simp [Kd] at h
 | .slice _, .flat _, h => by simp [Kd] at h
 | .slice _, .agg _, h => by simp [Kd] at h
 | .agg _, .flat _, h => by simp [Kd] at h
 | .agg _, .slice _, h => by simp [Kd] at h
theorem lR : ∀ {a b : List aq}, tP a b = true -> a = b
 | [], [], _ => rfl
 | [], _ :: _, h => by simp [tP] at h
 | _ :: _, [], h => by simp [tP] at h
 | a :: l, b :: r, h => by
  simp only [tP] at h
  split at h
  ·rename_i hab
   rw [yB hab, lR h]
  simp at h
end
def Q9 : Name -> Name -> Bool
 | .loc a, .loc b => Nat.beq a b
 | .out a, .out b => Nat.beq a b
 | _, _ => false
theorem oq {a b : Name} (h : Q9 a b = true) : a = b := by
 unfold Q9 at h
 split at h
 ·rw [Nat.eq_of_beq_eq_true h]
 ·rw [Nat.eq_of_beq_eq_true h]
 simp at h
def UD : Fn -> Fn -> Bool
 | .func a, .func b => Nat.beq a b
 | _, _ => false
theorem Ka {a b : Fn} (h : UD a b = true) : a = b := by
 unfold UD at h
 split at h
 ·rw [Nat.eq_of_beq_eq_true h]
 simp at h
mutual
def KM : ae -> ae -> Bool
 | .dat a, .dat b => Kd a b
 | .own a, .own b => tP a b
 | .ref a, .ref b => tP a b
 | .ptr n i, .ptr m j => Q9 n m && Nat.beq i j
 | .map n, .map m => Q9 n m
 | .win n a b c, .win n' a' b' c' => Q9 n n' && Nat.beq a a' && Nat.beq b b' && Nat.beq c c'
 | .fn f a b, .fn f' a' b' => UD f f' && vH a a' && vH b b'
 | .agg a, .agg b => vH a b
 | .tup a, .tup b => vH a b
 | .undef, .undef => true
 | _, _ => false
def vH : List ae -> List ae -> Bool
 | [], [] => true
 | a :: l, b :: r => (match KM a b with | true => vH l r | false => false)
 | _, _ => false
end
mutual
theorem Oc : ∀ {a b : ae}, KM a b = true -> a = b
 | .dat a, b, h => by cases b <;> simp only [KM, Bool.false_eq_true] at h; rw [yB h]
 | .own a, b, h => by cases b <;> simp only [KM, Bool.false_eq_true] at h; rw [lR h]
 | .ref a, b, h => by cases b <;> simp only [KM, Bool.false_eq_true] at h; rw [lR h]
 | .ptr n i, b, h => by cases b <;> simp only [KM, Bool.false_eq_true, Bool.and_eq_true] at h; rw [oq h.1, Nat.eq_of_beq_eq_true h.2]
 | .map n, b, h => by cases b <;> simp only [KM, Bool.false_eq_true] at h; rw [oq h]
 | .win n x y z, b, h => by cases b <;> simp only [KM, Bool.false_eq_true, Bool.and_eq_true] at h; rw [oq h.1.1.1, Nat.eq_of_beq_eq_true h.1.1.2, Nat.eq_of_beq_eq_true h.1.2, Nat.eq_of_beq_eq_true h.2]
 | .fn f x y, b, h => by cases b <;> simp only [KM, Bool.false_eq_true, Bool.and_eq_true] at h; rw [Ka h.1.1, gD h.1.2, gD h.2]
 | .agg a, b, h => by cases b <;> simp only [KM, Bool.false_eq_true] at h; rw [gD h]
 | .tup a, b, h => by cases b <;> simp only [KM, Bool.false_eq_true] at h; rw [gD h]
 | .undef, b, h => by cases b <;> simp only [KM, Bool.false_eq_true] at h; rfl
theorem gD : ∀ {a b : List ae}, vH a b = true -> a = b
 | [], [], _ => rfl
 | [], _ :: _, h => by simp [vH] at h
 | _ :: _, [], h => by simp [vH] at h
 | a :: l, b :: r, h => by
  simp only [vH] at h
  split at h
  ·rename_i hab
   rw [Oc hab, gD h]
  simp at h
end
def J9 : List (Value × aq) -> List (Value × aq) -> Bool
 | [], [] => true
 |(k, d) :: l, (k', d') :: r => (match Ps k k' && Kd d d' with | true => J9 l r | false => false)
 | _, _ => false
theorem AO : ∀ {a b : List (Value × aq)}, J9 a b = true -> a = b
 | [], [], _ => rfl
 | [], _ :: _, h => by simp [J9] at h
 | _ :: _, [], h => by simp [J9] at h
 |(k, d) :: l, (k', d') :: r, h => by
  simp only [J9] at h
  split at h
  ·rename_i hab
   simp only [Bool.and_eq_true] at hab
   rw [ED hab.1, yB hab.2, AO h]
  simp at h
def Xy : aN -> aN -> Bool
 | .cells a, .cells b => vH a b
 | .map a, .map b => J9 a b
 | _, _ => false
theorem EE {a b : aN} (h : Xy a b = true) : a = b := by
 unfold Xy at h
 split at h
 ·rw [gD h]
 ·rw [AO h]
 simp at h
theorem Ob (n : Name) : Q9 n n = true := by cases n <;> simp [Q9]
def Ep (n : Name) : List (Name × aN) -> Option aN
 | [] => none
 |(m, o) :: l => match Q9 m n with | true => some o | false => Ep n l
theorem yv {n : Name} : ∀ {l : List (Name × aN)} {o : aN}, Ep n l = some o -> dM n l = some o
 | [], o, h => by simp [Ep] at h
 |(m, p) :: l, o, h => by
  simp only [Ep] at h
  simp only [dM]
  split at h
  ·rename_i hm
   rw [if_pos (oq hm)]
   exact h
  rename_i hm
  rw [if_neg (fun e => by rw [e, Ob] at hm; simp at hm)]
  exact yv h
/-- All objects of the one heap lie in the other. -/
def sU : List (Name × aN) -> List (Name × aN) -> Bool
 | [], _ => true
 |(n, o) :: l, h => (match Ep n h with
  | some p => (match Xy o p with | true => sU l h | false => false)
  | none => false)
theorem uy : ∀ {a b : List (Name × aN)}, sU a b = true -> Pk a b
 | [], _, _ => fun n ob h => by simp [dM] at h
 |(n, o) :: l, b, h => by
  simp only [sU] at h
  split at h
  ·rename_i p hp
   split at h
   ·rename_i hab
    obtain rfl := EE hab
    intro k ob hk
    simp only [dM] at hk
    split at hk
    ·rename_i hkn
     simp only [Option.some.injEq] at hk
     subst hk
     subst hkn
     exact yv hp
    exact uy h k ob hk
   simp at h
  simp at h
def GZ : (List (Name × aN)) -> (List (Name × aN)) -> Bool
 | [], [] => true
 |(n, o) :: l, (m, p) :: r => (match Q9 n m && Xy o p with | true => GZ l r | false => false)
 | _, _ => false
theorem tN : ∀ {a b : List (Name × aN)}, GZ a b = true -> a = b
 | [], [], _ => rfl
 | [], _ :: _, h => by simp [GZ] at h
 | _ :: _, [], h => by simp [GZ] at h
 |(n, o) :: l, (m, p) :: r, h => by
  simp only [GZ] at h
  split at h
  ·rename_i hab
   simp only [Bool.and_eq_true] at hab
   rw [oq hab.1, EE hab.2, tN h]
  simp at h
/-! ### Two names change places -/
def zU (k : Nat) : Name -> Name
 | .loc i => .loc i
 | .out o => match Nat.beq o k with
  | true => .out (k + 1)
  | false => (match Nat.beq o (k + 1) with | true => .out k | false => .out o)
mutual
def CL (k : Nat) : ae -> ae
 | .dat d => .dat d
 | .own es => .own es
 | .ref cs => .ref cs
 | .ptr n off => .ptr (zU k n) off
 | .map n => .map (zU k n)
 | .win n s off len => .win (zU k n) s off len
 | .fn f a b => .fn f (wI k a) (wI k b)
 | .agg cs => .agg (wI k cs)
 | .tup cs => .tup (wI k cs)
 | .undef => .undef
def wI (k : Nat) : List ae -> List ae
 | [] => []
 | a :: r => CL k a :: wI k r
end
def X0 (k : Nat) : aN -> aN
 | .cells cs => .cells (wI k cs)
 | .map es => .map es
def Xv (k : Nat) : List (Name × aN) -> List (Name × aN)
 | [] => []
 |(n, o) :: r => (zU k n, X0 k o) :: Xv k r
def Hu : List (Name × aN) -> List (Name × aN)
 | x :: y :: r => y :: x :: r
 | r => r
def XZ (k : Nat) (s : aa) : aa := ⟨wI k s.tmps, Xv k s.locs, Hu (Xv k s.heap), s.next⟩
theorem mc (k o : Nat) : zU k (.out o) = if o = k then .out (k + 1) else if o = k + 1 then .out k else .out o := by
 simp only [zU]
 by_cases h1 : o = k
 ·subst h1; simp
 have e1 : Nat.beq o k = false := by cases h : Nat.beq o k; rfl; exact absurd (Nat.eq_of_beq_eq_true h) h1
 rw [e1, if_neg h1]
 by_cases h2 : o = k + 1
 ·subst h2; simp
 have e2 : Nat.beq o (k + 1) = false := by cases h : Nat.beq o (k + 1); rfl; exact absurd (Nat.eq_of_beq_eq_true h) h2
 simp only [e2, if_neg h2]
theorem vL (k : Nat) : ∀ n, zU k (zU k n) = n
 | .loc _ => rfl
 | .out o => by
  rw [mc]
  by_cases h1 : o = k
  ·subst h1; rw [if_pos rfl, mc]; simp
  rw [if_neg h1]
  by_cases h2 : o = k + 1
  ·subst h2; rw [if_pos rfl, mc]; simp
  rw [if_neg h2, mc, if_neg h1, if_neg h2]
section
variable {w : World} {R : Own} {N : Name -> Option Nat} {k : Nat}
mutual
theorem ak.sw : ∀ {a : ae} {v : Value} {bs : List Nat}, ak w R N a v bs -> ak w R (fun n => N (zU k n)) (CL k a) v bs
 | .dat _, _, _, h => by simp only [CL, ak] at h ⊢; exact h
 | .own _, _, _, h => by simp only [CL, ak] at h ⊢; exact h
 | .ref _, _, _, h => by simp only [CL, ak] at h ⊢; exact h
 | .ptr n off, _, _, h => by
  simp only [CL, ak] at h ⊢
  obtain ⟨h0, b, hb, e⟩ := h
  exact ⟨h0, b, by rw [vL]; exact hb, e⟩
 | .map n, _, _, h => by
  simp only [CL, ak] at h ⊢
  obtain ⟨h0, b, hb, e⟩ := h
  exact ⟨h0, b, by rw [vL]; exact hb, e⟩
 | .win n s off len, _, _, h => by
  simp only [CL, ak] at h ⊢
  obtain ⟨h0, b, cap, hb, e⟩ := h
  exact ⟨h0, b, cap, by rw [vL]; exact hb, e⟩
 | .fn f a c, _, _, h => by
  simp only [CL, ak] at h ⊢
  obtain ⟨h0, vs, us, e, h1, h2⟩ := h
  exact ⟨h0, vs, us, e, aj.sw (as := a) h1, aj.sw (as := c) h2⟩
 | .agg cs, _, _, h => by
  simp only [CL, ak] at h ⊢
  obtain ⟨vs, e, h1⟩ := h
  exact ⟨vs, e, aj.sw (as := cs) h1⟩
 | .tup cs, _, _, h => by
  simp only [CL, ak] at h ⊢
  obtain ⟨vs, e, h1⟩ := h
  exact ⟨vs, e, aj.sw (as := cs) h1⟩
 | .undef, _, _, h => by simp only [CL, ak] at h ⊢; exact h
theorem aj.sw : ∀ {as : List ae} {vs : List Value} {bs : List Nat}, aj w R N as vs bs -> aj w R (fun n => N (zU k n)) (wI k as) vs bs
 | [], _, _, h => by simp only [wI, aj] at h ⊢; exact h
 | a :: as, _, _, h => by
  simp only [wI, aj] at h ⊢
  obtain ⟨v, vs', b1, b2, e1, e2, h1, h2⟩ := h
  exact ⟨v, vs', b1, b2, e1, e2, ak.sw (a := a) h1, aj.sw (as := as) h2⟩
end
theorem wH : ∀ (a b : List ae), wI k (a ++ b) = wI k a ++ wI k b
 | [], b => rfl
 | x :: a, b => by simp only [List.cons_append, wI, wH a b]
theorem zV : ∀ (n : Nat), wI k (List.replicate n .undef) = List.replicate n .undef
 | 0 => rfl
 | n + 1 => by simp only [List.replicate_succ, wI, CL, zV n]
theorem Gw {a : ae} (h : AG (CL k a) = true) : AG a = true := by
 cases a <;> simp only [CL] at h <;> first | exact h | rfl | simp [AG] at h
theorem O1 {cs : List ae} (h : cI (wI k cs) = true) : cI cs = true := by
 match cs with
 | [] => simp [wI, cI] at h
 | [a] => simp [wI, cI] at h
 | [a, b] =>
  cases b with
  | own es => simp only [wI, CL, cI] at h ⊢; exact Gw h
  | dat d =>
   simp only [wI, CL] at h
   unfold cI at h
   split at h
   ·rename_i heq; simp at heq
   ·rename_i p es heq
    simp at heq
    obtain ⟨rfl, rfl⟩ := heq
    exact Gw h
   ·rename_i p heq
    simp at heq
    obtain ⟨rfl, rfl⟩ := heq
    exact Gw h
   simp at h
  | _ => simp [wI, CL, cI] at h
 | a :: b :: c :: r => simp [wI, cI] at h
theorem aQ.sw {o : aN} {b : Nat} {bs : List Nat} (h : aQ w R N o b bs) : aQ w R (fun n => N (zU k n)) (X0 k o) b bs := by
 cases o with
 | cells cs =>
  obtain ⟨vs, elem, sp, hb, hr, hR, hsh⟩ := h
  refine ⟨vs, elem, sp, hb, ?_, hR, fun hh => hsh (O1 hh)⟩
  have := hr.sw (k := k)
  rwa [wH, zV] at this
 | map es => exact h
theorem an.sw : ∀ {os : List (Name × aN)} {bs : List Nat}, an w R N os bs -> an w R (fun n => N (zU k n)) (Xv k os) bs
 | [], _, h => h
 |(n, _) :: _, _, ⟨b, b1, b2, e, hN, h1, h2⟩ => ⟨b, b1, b2, e, by show N (zU k (zU k n)) = _; rw [vL]; exact hN, h1.sw, an.sw h2⟩
theorem an.Hu {os : List (Name × aN)} {bs : List Nat} (h : an w R N os bs) : ∃ bs', an w R N (Hu os) bs' /\ bs'.Perm bs := by
 match os with
 | [] => exact ⟨bs, h, List.Perm.refl _⟩
 | [x] => exact ⟨bs, h, List.Perm.refl _⟩
 |(n, o) :: (m, p) :: r =>
  obtain ⟨b, b1, b2, rfl, hN, h1, c, c1, c2, rfl, hM, h2, h3⟩ := h
  refine ⟨_, ⟨c, c1, _, rfl, hM, h2, b, b1, c2, rfl, hN, h1, h3⟩, ?_⟩
  rw [List.perm_iff_count]
  intro q
  simp only [List.count_append, List.count_cons]
  omega
theorem P7 : outs (fun n => N (zU k n)) = fun n => outs N (zU k n) := by
 funext n
 cases n with
 | loc i => rfl
 | out o =>
  have : ∃ o', zU k (.out o) = .out o' := by rw [mc]; split; exact ⟨_, rfl⟩; split; exact ⟨_, rfl⟩; exact ⟨_, rfl⟩
  obtain ⟨o', e⟩ := this
  simp only [outs, e]
end
theorem LQ {G : bE} {k : Nat} {s : aa} (hk : k + 1 < s.next) : RJ G k (XZ k s) s := by
 intro w R N tmps bsT bsL bsH bsF hr
 obtain ⟨bsH', hH, hp⟩ := (hr.heap.sw (k := k)).Hu
 refine ⟨fun n => N (zU k n), bsT, bsL, bsH', ⟨by simp only [ak], hr.tmps.sw, hr.locs.sw, by rw [P7]; exact hH, ?_, ?_, hr.glob, hr.frame⟩, ?_⟩
 ·have := hr.nodup
  simp only [List.nil_append] at this ⊢
  refine (List.Perm.nodup_iff ?_).1 this
  exact (((hp.symm.append_right bsF).append_left bsL).append_left bsT)
 ·intro o b hb
  have hb : N (zU k (.out o)) = some b := hb
  rw [mc] at hb
  show o < s.next
  split at hb
  ·rename_i h; subst h; omega
  split at hb
  ·rename_i h; subst h; exact hk
  exact hr.next o b hb
 intro o b ho hb
 show N (zU k (.out o)) = some b
 rw [mc, if_neg (by omega), if_neg (by omega)]
 exact hb
def Ac (s s' : aa) : Bool := vH s.tmps s'.tmps && GZ s.locs s'.locs && GZ s.heap s'.heap && Nat.beq s.next s'.next
theorem qd {s s' : aa} (h : Ac s s' = true) : s = s' := by
 unfold Ac at h
 simp only [Bool.and_eq_true] at h
 obtain ⟨t, l, hh, n⟩ := s
 obtain ⟨t', l', hh', n'⟩ := s'
 obtain ⟨⟨⟨h1, h2⟩, h3⟩, h4⟩ := h
 rw [show t = t' from gD h1, show l = l' from tN h2, show hh = hh' from tN h3, show n = n' from Nat.eq_of_beq_eq_true h4]
def Js (k : Nat) (s0 s : aa) : Bool := match Ac s0 s with | true => true | false => Nat.blt (k + 1) s.next && Ac s0 (XZ k s)
theorem Ai {G : bE} {k : Nat} {s0 s : aa} (h : Js k s0 s = true) : RJ G k s0 s := by
 unfold Js at h
 split at h
 ·rename_i hs
  rw [qd hs]
  exact fun w R N tmps bsT bsL bsH bsF hr => ⟨N, bsT, bsL, bsH, hr, fun _ _ _ h => h⟩
 simp only [Bool.and_eq_true, Nat.blt_eq] at h
 rw [qd h.2]
 exact LQ h.1
end Go.Tp

namespace Go.Tp
structure eW where
 val : ae
 heap : Heap
 next : Nat
abbrev iI := FuncId -> List ae -> Heap -> Nat -> Option eW
/-- A function's code, slots, results, and the orders of its regions. -/
structure lY where
 code : Code
 ntmps : Nat
 results : List ResultVar
 ord : Nat -> az
 /-- the slots that are read behind a region, as bits -/
 live : Nat -> Nat
section
variable (X : iI) (E : bq) (G : bE) (H : Hints)
def Fe (all : List Oper) (o : Oper) (s : aa) : Option aa :=
 match dj all s o.guard with
 | none => none
 | some b =>
  if b = true then
   (match cV o.op with
    | some c => (match kY E G H c s with
     | some (f, args, s2) => (match X f args s2.heap s2.next with
      | some r => some (({ s2 with heap := r.heap, next := r.next } : aa).put o.dst r.val)
      | none => none)
     | none => none)
    | none => cK E G (readOnly H.moves all o) (ku H all o) o s)
  else some (s.put o.dst (.tup []))
def CN (all : List Oper) : List Oper -> aa -> Option aa
 | [], s => some s
 | o :: rest, s => (match Fe X E G H all o s with | some s' => CN all rest s' | none => none)
def Fc (fh : Bool) (tk : List Nat) (all : List Oper) (o : Oper) (s : aa) : Option aa :=
 match dj all s o.guard with
 | none => none
 | some b =>
  if b = true then
   (match cV o.op with
    | some c => (match dv E G H c s with
     | some (f, args, s2) => (match gq H o with
      | true => (match X f args [] s2.next with
       | some ⟨v, [], n⟩ => some (({ s2 with next := n } : aa).put o.dst v)
       | _ => none)
      | false => (match X f args s2.heap s2.next with
       | some r => (match !lm H o || sU s2.heap r.heap with
        | true => some (({ s2 with heap := r.heap, next := r.next } : aa).put o.dst r.val)
        | false => none)
       | none => none))
     | none => none)
    | none => (match eQ o.op with
     | some t => (match dg fh all (fp all t (kq tk t s)) s with
      | some s1 => cK E G false false o s1
      | none => none)
     | none => (match jA o.op with
      | true => cK E G (readOnly H.moves all o) (ku H all o) o s
      | false => none)))
  else some (s.put o.dst (.tup []))
def Bf (tk : List Nat) (fh : Bool) (fq : Nat -> Bool) (all : List Oper) : List (Nat × Bool) -> aa -> Option aa
 | [], s => some s
 |(i, lone) :: r, s =>
  match all[i]? with
  | none => none
  | some o =>
   if lone = true then (match Fc X E G H fh tk all o s with | some s' => Bf tk fh fq all r s' | none => none)
   else (match eE E G (fh || fq i) all o s with
    | some a => Bf tk fh fq all r (s.put o.dst a)
    | none => none)
def Bh (all : List Oper) : Nat -> Array Bool -> aa -> Option aa
 | 0, _, s => some s
 | m + 1, listed, s => match Region.ready .any all.toArray listed with
  | [] => some s
  | i :: _ => (match all[i]? with
   | some o => (match Fe X E G H all o s with | some s1 => Bh all m (bK listed i) s1 | none => none)
   | none => none)
def qb (all : List Oper) (k : Nat) (s0 : aa) : Nat -> Array Bool -> aa -> Bool
 | 0, listed, s => (Region.ready .any all.toArray listed).isEmpty && Js k s0 s
 | m + 1, listed, s => match Region.ready .any all.toArray listed with
  | [] => Js k s0 s
  | i :: l => (i :: l).all fun i => match all[i]? with
   | some o => (match Fe X E G H all o s with | some s1 => qb all k s0 m (bK listed i) s1 | none => false)
   | none => false
def pD : List Bool -> List Bool -> Bool
 | [], [] => true
 | true :: l, true :: r => pD l r
 | false :: l, false :: r => pD l r
 | _, _ => false
def Bg (h : az) (all : List Oper) : Nat -> Array Bool -> aa -> Option aa
 | 0, _, s => some s
 | m + 1, listed, s => match Region.ready .any all.toArray listed with
  | [] => none
  | i :: _ => (match all[i]? with
   | some o => (match Fc X E G H (aO H all h.pre) h.tk all o s with | some s1 => Bg h all m (bK listed i) s1 | none => none)
   | none => none)
def pZ (h : az) (all : List Oper) (p : Array Bool) (s0 : aa) : Nat -> Array Bool -> aa -> Bool
 | 0, listed, s => pD listed.toList p.toList && Ac s0 s
 | m + 1, listed, s => !pD listed.toList p.toList && !(Region.ready .any all.toArray listed).isEmpty && (Region.ready .any all.toArray listed).all fun i => h.pre.contains (i, true) && (match all[i]? with
   | some o => (match Fc X E G H (aO H all h.pre) h.tk all o s with | some s1 => pZ h all p s0 m (bK listed i) s1 | none => false)
   | none => false)
def wx (all : List Oper) (h : az) (s : aa) : Option aa :=
 match Bf X E G H h.tk (aO H all h.pre) (quietAt H all h.pre) all (bL h.pre) s with
 | some s1 => (match Bg X E G H h all (h.pre.length - (bL h.pre).length) (dI (bL h.pre) (Array.replicate all.length false)) s1 with
  | some s0 => (match pZ X E G H h all (dI h.pre (Array.replicate all.length false)) s0 (h.pre.length - (bL h.pre).length) (dI (bL h.pre) (Array.replicate all.length false)) s1 with
   | true => (match gJ E all h.nw s0 with
    | some s2 => CN X E G H all (dw all h.tail) s2
    | none => none)
   | false => none)
  | none => none)
 | none => none
def Hq (all : List Oper) (h : az) (s : aa) : Option aa :=
 if fG h = true then (match Bh X E G H all all.length (Array.replicate all.length false) s with
  | some s0 => (match qb X E G H all s.next s0 all.length (Array.replicate all.length false) s with | true => some s0 | false => none)
  | none => none)
 else
 if fZ h = true then wx X E G H all (fj h) s else
 match Bf X E G H h.tk (aO H all h.pre) (quietAt H all h.pre) all h.pre s with
 | some s1 => (match gJ E all h.nw s1 with
  | some s2 => CN X E G H all (dw all h.tail) s2
  | none => none)
 | none => none
def Pt (rs : List ResultVar) (s : aa) : Option eW :=
 match gk E s rs with
 | none => none
 | some vs =>
  if bF (iS vs) = true then some ⟨pack (iS vs), s.heap, s.next⟩
  else match gu (oS s.locs.length (lJ s.locs)) s (iS vs) with
   |(s', vs') => if bF vs' = true then some ⟨pack vs', s'.heap, s'.next⟩ else none
end
/-! ### It is what the program does -/
def XQ (r : eW) : ae -> Heap -> Nat -> Prop := fun v h n => v = r.val /\ h = r.heap /\ n = r.next
section
variable {P : Program} {X : iI} {E : bq} {G : bE} {H : Hints}
def E9 (P : Program) (G : bE) (X : iI) : Prop := ∀ f args heap next r, X f args heap next = some r -> aB P G f args heap next (XQ r)
theorem ww (hX : E9 P G X) {all : List Oper} {o : Oper} {s s' : aa} (h : Fe X E G H all o s = some s') {K : aa -> Prop} (hK : K s') : lx (aB P G) E G H all o K s := by
 unfold Fe at h
 unfold lx
 split at h
 ·simp at h
 rename_i b hb
 rw [hb]
 dsimp only
 split at h
 ·rename_i hb1
  rw [if_pos hb1]
  split at h
  ·rename_i c hc
   rw [hc]
   dsimp only
   split at h
   ·rename_i f args s2 hcal
    rw [hcal]
    dsimp only
    split at h
    ·rename_i r hr
     simp at h
     refine (hX _ _ _ _ _ hr).mono ?_
     rintro v hh n ⟨rfl, rfl, rfl⟩ _ _
     rw [h]; exact hK
    simp at h
   simp at h
  rename_i hc
  rw [hc]
  dsimp only
  rw [h]
  exact hK
 rename_i hb1
 rw [if_neg hb1]
 simp at h
 rw [h]; exact hK
theorem ma (hX : E9 P G X) {all : List Oper} {K : aa -> Prop} : ∀ {ops : List Oper} {s s' : aa}, CN X E G H all ops s = some s' -> K s' -> lv (aB P G) E G H all K ops s
 | [], s, s', h, hK => by simp [CN] at h; subst h; exact hK
 | o :: rest, s, s', h, hK => by
  simp only [CN] at h
  simp only [lv, hO]
  split at h
  ·rename_i s1 h1
   exact ww hX h1 (ma hX h hK)
  simp at h
theorem wv (hX : E9 P G X) {fh : Bool} {tk : List Nat} {all : List Oper} {o : Oper} {s s' : aa} (h : Fc X E G H fh tk all o s = some s') {K : aa -> Prop} (hK : K s') : JD (aB P G) E G H fh tk all o K s := by
 unfold Fc at h
 unfold JD
 split at h
 ·simp at h
 rename_i b hb
 rw [hb]
 dsimp only
 split at h
 ·rename_i hb1
  rw [if_pos hb1]
  split at h
  ·rename_i c hc
   rw [hc]
   dsimp only
   split at h
   ·rename_i f args s2 hcal
    rw [hcal]
    dsimp only
    cases hpu : gq H o with
    | true =>
     rw [hpu] at h
     dsimp only at h ⊢
     split at h
     ·rename_i v n hr
      simp at h
      refine (hX _ _ _ _ _ hr).mono ?_
      rintro v hh n ⟨rfl, rfl, rfl⟩ _ _
      exact ⟨rfl, by rw [h]; exact hK⟩
     simp at h
    | false =>
     rw [hpu] at h
     dsimp only at h ⊢
     split at h
     ·rename_i r hr
      split at h
      ·rename_i hst
       simp at h
       refine (hX _ _ _ _ _ hr).mono ?_
       rintro v hh n ⟨rfl, rfl, rfl⟩ _ _
       refine ⟨fun hrd => ?_, by rw [h]; exact hK⟩
       rw [hrd] at hst
       exact uy (by simpa using hst)
      simp at h
     simp at h
   simp at h
  rename_i hc
  rw [hc]
  dsimp only
  split at h
  ·rename_i t ht
   rw [ht]
   dsimp only
   split at h
   ·rename_i s1 hs1
    rw [hs1]
    dsimp only
    rw [h]
    exact hK
   simp at h
  rename_i ht
  rw [ht]
  dsimp only
  split at h
  ·rename_i hst
   rw [hst]
   dsimp only
   rw [h]
   exact hK
  simp at h
 rename_i hb1
 rw [if_neg hb1]
 simp at h
 rw [h]; exact hK
theorem lZ (hX : E9 P G X) {tk : List Nat} {fh : Bool} {fq : Nat -> Bool} {all : List Oper} {T : aa -> Prop} : ∀ {l : List (Nat × Bool)} {s s' : aa}, Bf X E G H tk fh fq all l s = some s' -> T s' -> kX (aB P G) E G H tk fh fq all T l s
 | [], s, s', h, hK => by simp [Bf] at h; subst h; exact hK
 |(i, lone) :: rest, s, s', h, hK => by
  simp only [Bf] at h
  simp only [kX]
  split at h
  ·simp at h
  rename_i o ho
  rw [ho]
  dsimp only
  simp only [hO]
  split at h
  ·rename_i hl
   rw [if_pos hl]
   split at h
   ·rename_i s1 h1
    exact wv hX h1 (lZ hX h hK)
   simp at h
  rename_i hl
  rw [if_neg hl]
  split at h
  ·rename_i a ha
   rw [ha]
   exact lZ hX h hK
  simp at h
theorem qQ (hX : E9 P G X) {all : List Oper} {k : Nat} {s0 : aa} {Q : aa -> Prop} (hQ : Q s0) : ∀ (m : Nat) (listed : Array Bool) (s : aa), qb X E G H all k s0 m listed s = true -> ng (aB P G) E G H all (fun s' => ∃ s0, Q s0 /\ RJ G k s0 s') m listed s
 | 0, listed, s, h => by
  simp only [qb, Bool.and_eq_true, List.isEmpty_iff] at h
  exact ⟨h.1, s0, hQ, Ai h.2⟩
 | m + 1, listed, s, h => by
  simp only [qb] at h
  simp only [ng]
  split at h
  ·rename_i he
   exact .inl ⟨he, s0, hQ, Ai h⟩
  rename_i i l he
  refine .inr ⟨by rw [he]; simp, ?_⟩
  rw [he]
  intro j hj
  have h1 := List.all_eq_true.1 h j hj
  split at h1
  ·rename_i o ho
   split at h1
   ·rename_i s1 hs1
    exact ⟨o, ho, ww hX hs1 (qQ hX hQ m _ s1 h1)⟩
   simp at h1
  simp at h1
theorem jN : ∀ {a b : List Bool}, pD a b = true ↔ a = b
 | [], [] => by simp [pD]
 | [], _ :: _ => by simp [pD]
 | _ :: _, [] => by simp [pD]
 | true :: l, true :: r => by simp [pD, jN (a := l) (b := r)]
 | false :: l, false :: r => by simp [pD, jN (a := l) (b := r)]
 | true :: l, false :: r => by simp [pD]
 | false :: l, true :: r => by simp [pD]
theorem qP (hX : E9 P G X) {h : az} {all : List Oper} {p : Array Bool} {s0 : aa} {K : aa -> Prop} (hK : K s0) : ∀ (m : Nat) (listed : Array Bool) (s : aa), pZ X E G H h all p s0 m listed s = true -> ud (aB P G) E G H h all p K m listed s
 | 0, listed, s, hh => by
  simp only [pZ, Bool.and_eq_true] at hh
  refine ⟨Array.ext' (jN.1 hh.1), ?_⟩
  rw [← qd hh.2]
  exact hK
 | m + 1, listed, s, hh => by
  simp only [pZ, Bool.and_eq_true, Bool.not_eq_true'] at hh
  obtain ⟨⟨h1, h2⟩, h3⟩ := hh
  refine ⟨fun e => ?_, fun e => by rw [e] at h2; simp at h2, fun i hi => ?_⟩
  ·rw [e, jN.2 rfl] at h1
   simp at h1
  have h4 := List.all_eq_true.1 h3 i hi
  simp only [Bool.and_eq_true] at h4
  refine ⟨by simpa using h4.1, ?_⟩
  have h5 := h4.2
  split at h5
  ·rename_i o ho
   split at h5
   ·rename_i s1 hs1
    exact ⟨o, ho, wv hX hs1 (qP hX hK m _ s1 h5)⟩
   simp at h5
  simp at h5
theorem Bi (hX : E9 P G X) {all : List Oper} {h : az} {s s' : aa} (hh : wx X E G H all h s = some s') {Q : aa -> Prop} (hQ : Q s') : zi (aB P G) E G H all h Q s := by
 unfold wx at hh
 unfold zi
 split at hh
 ·rename_i s1 h1
  refine lZ hX h1 ?_
  split at hh
  ·rename_i s0 _
   split at hh
   ·rename_i h2
    refine qP hX ?_ _ _ _ h2
    split at hh
    ·rename_i s2 h3
     rw [h3]
     exact ma hX hh hQ
    simp at hh
   simp at hh
  simp at hh
 simp at hh
theorem CO (hX : E9 P G X) {all : List Oper} {h : az} {s s' : aa} (hh : Hq X E G H all h s = some s') {Q : aa -> Prop} (hQ : Q s') : zj (aB P G) E G H all h Q s := by
 unfold Hq at hh
 unfold zj
 by_cases hx : fG h = true
 ·rw [if_pos hx] at hh
  rw [if_pos hx]
  split at hh
  ·rename_i s0 _
   split at hh
   ·rename_i h2
    simp only [Option.some.injEq] at hh
    subst hh
    exact qQ hX hQ _ _ _ h2
   simp at hh
  simp at hh
 rw [if_neg hx] at hh
 rw [if_neg hx]
 by_cases hlm : fZ h = true
 ·rw [if_pos hlm] at hh
  rw [if_pos hlm]
  exact Bi hX hh hQ
 rw [if_neg hlm] at hh
 rw [if_neg hlm]
 split at hh
 ·rename_i s1 h1
  refine lZ hX h1 ?_
  split at hh
  ·rename_i s2 h2
   rw [h2]
   exact ma hX hh hQ
  simp at hh
 simp at hh
theorem pY {rs : List ResultVar} {s : aa} {r : eW} (h : Pt E rs s = some r) : vJ E rs (XQ r) s := by
 unfold Pt at h
 unfold vJ
 split at h
 ·simp at h
 rename_i vs hvs
 rw [hvs]
 dsimp only
 split at h
 ·rename_i hn
  rw [if_pos hn]
  simp at h; subst h
  exact ⟨rfl, rfl, rfl⟩
 rename_i hn
 rw [if_neg hn]
 split at h
 rename_i s' vs' he
 rw [he]
 dsimp only
 split at h
 ·rename_i hn2
  rw [if_pos hn2]
  simp at h; subst h
  exact ⟨rfl, rfl, rfl⟩
 simp at h
/-- The table of functions is the program's. -/
def Xt (P : Program) (moves caps : FuncId -> Bool) (F : FuncId -> Option lY) : Prop :=
 ∀ f x, F f = some x -> ∃ fn : Func, P.funcs[f]? = some fn /\ fn.body = some x.code /\ fn.ntmps = x.ntmps /\ fn.results.toList = x.results /\ cF ⟨moves, x.ord, caps, false⟩ x.code = true
end
/-! ### Tables of functions -/
def lY.of (fn : Func) (ord : Nat -> az) (live : Nat -> Nat) : lY := ⟨match fn.body with | some c => c | none => .skip, fn.ntmps, fn.results.toList, ord, live⟩
inductive bc where
 |nil
 |node (l : bc) (k : Nat) (fn : Func) (ord : Nat -> az) (live : Nat -> Nat) (r : bc)
def bc.find : bc -> Nat -> Option lY
 | .nil, _ => none
 | .node l k fn ord live r, t => match Nat.blt t k with
  | true => l.find t
  | false => (match Nat.blt k t with | true => r.find t | false => some (lY.of fn ord live))
def CD (moves caps : FuncId -> Bool) (fn : Func) (ord : Nat -> az) : Bool :=
 match fn.body with
 | some c => cF ⟨moves, ord, caps, false⟩ c
 | none => false
def aM (P : Program) (moves caps : FuncId -> Bool) (k : Nat) (fn : Func) (ord : Nat -> az) : Prop := P.funcs[k]? = some fn /\ CD moves caps fn ord = true
theorem ao {P : Program} {moves caps : FuncId -> Bool} {k : Nat} {fn : Func} {ord : Nat -> az} (h1 : P.funcs[k]? = some fn) (h2 : CD moves caps fn ord = true) : aM P moves caps k fn ord := ⟨h1, h2⟩
def bc.Fb (P : Program) (moves caps : FuncId -> Bool) : bc -> Prop
 | .nil => True
 | .node l k fn ord _ r => l.Fb P moves caps /\ aM P moves caps k fn ord /\ r.Fb P moves caps
theorem bc.all_nil {P : Program} {moves caps : FuncId -> Bool} : bc.Fb P moves caps .nil := trivial
theorem bc.al {P : Program} {moves caps : FuncId -> Bool} {l r : bc} {k : Nat} {fn : Func} {ord : Nat -> az} {live : Nat -> Nat} (h1 : l.Fb P moves caps) (h2 : aM P moves caps k fn ord) (h3 : r.Fb P moves caps) : bc.Fb P moves caps (.node l k fn ord live r) := ⟨h1, h2, h3⟩
theorem bc.ok {P : Program} {moves caps : FuncId -> Bool} : ∀ {t : bc}, t.Fb P moves caps -> Xt P moves caps t.find
 | .nil, _ => by intro f x h; simp [bc.find] at h
 | .node l k fn ord live r, ⟨h1, h2, h3⟩ => by
  intro f x h
  simp only [bc.find] at h
  cases h1' : Nat.blt f k with
  | true => rw [h1'] at h; exact bc.ok h1 f x h
  | false =>
   rw [h1'] at h
   cases h2' : Nat.blt k f with
   | true => rw [h2'] at h; exact bc.ok h3 f x h
   | false =>
    rw [h2'] at h
    have a : ¬ @LT.lt Nat _ f k := fun h => by rw [← Nat.blt_eq, h1'] at h; simp at h
    have b : ¬ @LT.lt Nat _ k f := fun h => by rw [← Nat.blt_eq, h2'] at h; simp at h
    have hk : @Eq Nat f k := by omega
    subst hk
    simp at h
    subst h
    obtain ⟨g1, g2⟩ := h2
    refine ⟨fn, g1, ?_, rfl, rfl, ?_⟩
    ·unfold CD at g2
     simp only [lY.of]
     cases hb : fn.body with
     | none => rw [hb] at g2; simp at g2
     | some c => rfl
    unfold CD at g2
    simp only [lY.of]
    cases hb : fn.body with
    | none => rw [hb] at g2; simp at g2
    | some c => rw [hb] at g2; exact g2
end Go.Tp

namespace Go.Tp
def dt : List UInt8 -> List UInt8 -> Bool
 | [], [] => true
 | a :: x, b :: y => (match Nat.beq a.toNat b.toNat with | true => dt x y | false => false)
 | _, _ => false
def JL : List UInt8 -> List UInt8 -> Bool
 | _, [] => false
 | [], _ :: _ => true
 | a :: x, b :: y => (match Nat.blt a.toNat b.toNat with
  | true => true
  | false => (match Nat.beq a.toNat b.toNat with | true => JL x y | false => false))
theorem O6 (a b : UInt8) : Nat.beq a.toNat b.toNat = (a == b) := by
 rw [Bool.eq_iff_iff, Nat.beq_eq, beq_iff_eq]
 exact ⟨UInt8.toNat_inj.1, fun h => by rw [h]⟩
theorem UP (a b : UInt8) : Nat.blt a.toNat b.toNat = decide (a < b) := by
 rw [Bool.eq_iff_iff, Nat.blt_eq, decide_eq_true_eq]
 exact UInt8.lt_iff_toNat_lt.symm
theorem ke : ∀ x y, dt x y = (x == y)
 | [], [] => rfl
 | [], _ :: _ => rfl
 | _ :: _, [] => rfl
 | a :: x, b :: y => by
  simp only [dt, O6, ke x y]
  cases h : a == b <;> simp_all
theorem Nb : ∀ x y, JL x y = Op.bytesLess x y
 | [], [] => rfl
 | [], _ :: _ => rfl
 | _ :: _, [] => rfl
 | a :: x, b :: y => by
  simp only [JL, UP, O6, Nb x y, Op.bytesLess]
  cases decide (a < b) <;> cases h : a == b <;> simp_all
theorem toList_data (x : ByteArray) : x.toList = x.data.toList := ByteArray.toList_eq x
def aI (k : IntKind) (n : Int) : Int :=
 match k with
 | .i64 => (match n with
  | .ofNat m => (match Nat.blt m 9223372036854775808 with | true => .ofNat m | false => k.wrap n)
  | .negSucc m => (match Nat.blt m 9223372036854775808 with | true => .negSucc m | false => k.wrap n))
 | .u8 => (match n with
  | .ofNat m => (match Nat.blt m 256 with | true => .ofNat m | false => k.wrap n)
  | .negSucc _ => k.wrap n)
 | .u64 => (match n with
  | .ofNat m => (match Nat.blt m 18446744073709551616 with | true => .ofNat m | false => k.wrap n)
  | .negSucc _ => k.wrap n)
 | _ => k.wrap n
theorem hJ {a b : Nat} (h : a <= b) : Nat.ble a b = true := by rw [Nat.ble_eq]; exact h
theorem fW {a b : Nat} (h : Nat.ble a b = true) : a <= b := by rwa [Nat.ble_eq] at h
theorem oA {a b : Nat} (h : Nat.blt a b = true) : a < b := by rwa [Nat.blt_eq] at h
theorem dz (k : IntKind) (n : Int) : aI k n = k.wrap n := by
 unfold aI
 split
 ·split
  ·split
   ·rename_i m h
    have h := oA h
    simp [IntKind.wrap, IntKind.signed, IntKind.bits]
    omega
   rfl
  rename_i m
  split
  ·rename_i h
   have h := oA h
   have e : (Int.negSucc m : Int) = -(m : Int) - 1 := by rw [Int.negSucc_eq]; omega
   exact (wrap_i64 (by rw [e]; omega) (by rw [e]; omega)).symm
  rfl
 ·split
  ·split
   ·rename_i m h
    have h := oA h
    simp [IntKind.wrap, IntKind.signed, IntKind.bits]
    omega
   rfl
  rfl
 ·split
  ·split
   ·rename_i m h
    have h := oA h
    simp [IntKind.wrap, IntKind.signed, IntKind.bits]
    omega
   rfl
  rfl
 rfl
def bm (a b : Int) : Bool :=
 match a, b with
 | .ofNat x, .ofNat y => Nat.blt x y
 | .negSucc x, .negSucc y => Nat.blt y x
 | .negSucc _, .ofNat _ => true
 | .ofNat _, .negSucc _ => false
theorem gp (a b : Int) : bm a b = decide (a < b) := by
 cases a <;> cases b <;> simp only [bm] <;> rw [Bool.eq_iff_iff] <;> simp [Nat.blt_eq] <;> omega
def aZ (a b : Int) : Bool :=
 match a, b with
 | .ofNat x, .ofNat y => Nat.beq x y
 | .negSucc x, .negSucc y => Nat.beq x y
 | .negSucc _, .ofNat _ => false
 | .ofNat _, .negSucc _ => false
theorem fV (a b : Int) : aZ a b = (a == b) := by
 cases a <;> cases b <;> simp only [aZ] <;> rw [Bool.eq_iff_iff] <;> simp <;> omega
def xc : TypeDesc -> Value -> Value -> Option Bool
 | .string, .string a, .string b => some (dt a.data.toList b.data.toList)
 | td, a, b => Instr.sameNow td a b
theorem LA (td : TypeDesc) (a b : Value) : xc td a b = Instr.sameNow td a b := by
 unfold xc
 split
 ·rename_i x y
  simp only [Instr.sameNow, ke, Option.some.injEq]
  obtain ⟨⟨a⟩⟩ := x
  obtain ⟨⟨b⟩⟩ := y
  have e : ((⟨⟨a⟩⟩ : ByteArray) == ⟨⟨b⟩⟩) = ((Array.mk a) == (Array.mk b)) := rfl
  rw [e]
  simp
 rfl
def findF (td : TypeDesc) (k : Value) : List (Value × aq) -> Nat -> Option (Option (Nat × aq))
 | [], _ => some none
 |(x, d) :: es, i =>
  match xc td k x with
  | some true => some (some (i, d))
  | some false => findF td k es (i + 1)
  | none => none
theorem Er (td : TypeDesc) (k : Value) : ∀ es i, findF td k es i = findKey td k es i
 | [], _ => rfl
 |(x, d) :: es, i => by
  simp only [findF, findKey, LA]
  cases h : Instr.sameNow td k x with
  | none => rfl
  | some b => cases b <;> simp [Er td k es]
/-- All elements have as many cells. -/
def sizedB (size : Nat) : List aq -> Bool
 | [] => true
 | d :: r => (match Nat.beq d.cells.length size with | true => sizedB size r | false => false)
theorem fw {size : Nat} : ∀ {l : List aq}, sizedB size l = true ↔ ∀ d ∈ l, d.cells.length = size
 | [] => by simp [sizedB]
 | d :: r => by
  simp only [sizedB]
  split
  ·rename_i h; rw [Nat.beq_eq] at h; rw [fw]; simp [h]
  rename_i h
  have : ¬ d.cells.length = size := fun e => by rw [← Nat.beq_eq] at e; rw [e] at h; simp at h
  simp [this]
def B9 {α : Type} : List α -> Nat -> Option α
 | [], _ => none
 | a :: _, 0 => some a
 | _ :: r, n + 1 => B9 r n
theorem rS {α : Type} : ∀ (l : List α) (n : Nat), B9 l n = l[n]?
 | [], _ => by simp [B9]
 | _ :: _, 0 => by simp [B9]
 | _ :: r, n + 1 => by simp [B9, rS r n]
def ay.aT : ay where
 wrap := aI
 add k a b := aI k (a + b)
 dif k a b := aI k (a - b)
 mul k a b := aI k (a * b)
 lt := bm
 eq := aZ
 slt x y := JL x.data.toList y.data.toList
 seq x y := dt x.data.toList y.data.toList
 cat x y := (match Nat.ble (x.size + y.size) 9223372036854775807 with | true => some ⟨⟨x.data.toList ++ y.data.toList⟩⟩ | false => none)
 elt es i := (match i with | .ofNat n => B9 es n | .negSucc _ => none)
 byte s i := (match i with | .ofNat n => B9 s.data.toList n | .negSucc _ => none)
 sub size es lo hi := (match sizedB size es, Nat.blt 0 size with
   | true, true => (match cX hi es.length, cX lo 0 with
    | some h, some l => (match Nat.ble l h, Nat.ble h es.length with | true, true => some ((es.take h).drop l) | _, _ => none)
    | _, _ => none)
   | _, _ => none)
 ssub := ay.lE.ssub
 app size bytes es ds := (match size with
   | 0 => none
   | s + 1 => (match sizedB (s + 1) ds, sizedB (s + 1) es, Nat.blt 0 bytes, Nat.ble ((es.length + ds.length) * bytes) 140737488355328, Nat.ble (es.length + ds.length) jy with
    | true, true, true, true, true => some (es ++ ds)
    | _, _, _, _, _ => none))
 key td k es := findF td k es 0
 len := List.length
 slen := ByteArray.size
 rem := Int.tmod
 quo := Int.tdiv
 mx x y := (match bm x y with | true => y | false => x)
theorem N7 : ay.aT = ay.lE := by
 unfold ay.aT ay.lE
 congr 1
 ·funext k n; exact dz k n
 ·funext k a b; exact dz k _
 ·funext k a b; exact dz k _
 ·funext k a b; exact dz k _
 ·funext a b; exact gp a b
 ·funext a b; exact fV a b
 ·funext x y; rw [Nb, toList_data, toList_data]
 ·funext x y; rw [ke, toList_data, toList_data]
 ·funext x y
  have hm : IntKind.i64.max = 9223372036854775807 := by decide
  have hc : (⟨⟨x.data.toList ++ y.data.toList⟩⟩ : ByteArray) = x ++ y := by
   have e : x ++ y = ⟨x.data ++ y.data⟩ := by
    cases x; cases y; simp [ByteArray.ext_iff]
   rw [e]
   cases x; cases y; simp
  rw [hc, hm]
  split
  ·rename_i h; rw [Nat.ble_eq] at h; rw [if_neg (by omega)]
  rename_i h
  have : ¬ x.size + y.size <= 9223372036854775807 := fun e => by rw [← Nat.ble_eq] at e; rw [e] at h; simp at h
  rw [if_pos (by omega)]
 ·funext es i
  cases i with
  | ofNat n => simp [rS]
  | negSucc n => rfl
 ·funext s i
  cases i with
  | ofNat n =>
   simp only [rS]
   rw [if_pos (show (0 : Int) <= Int.ofNat n from Int.natCast_nonneg n)]
   by_cases h : n < s.size
   ·rw [show (Int.ofNat n).toNat = n from rfl, getElem?_pos s n h]
    have h2 : n < s.data.toList.length := by simpa using h
    rw [List.getElem?_eq_getElem h2]
    simp [ByteArray.getElem_eq_getElem_data]
   rw [show (Int.ofNat n).toNat = n from rfl, getElem?_neg s n h, List.getElem?_eq_none (by simpa using h)]
  | negSucc n => rfl
 ·funext size es lo hi
  by_cases h1 : ∀ d ∈ es, d.cells.length = size
  ·rw [fw.2 h1]
   by_cases h2 : 0 < size
   ·rw [if_pos ⟨h1, h2⟩, show Nat.blt 0 size = true from by rw [Nat.blt_eq]; exact h2]
    dsimp only
    cases cX hi es.length with
    | none => rfl
    | some h =>
     cases cX lo 0 with
     | none => rfl
     | some l =>
      dsimp only
      by_cases h3 : l <= h <;> by_cases h4 : h <= es.length
      ·rw [if_pos ⟨h3, h4⟩, hJ h3, hJ h4]
      ·rw [if_neg (fun h => h4 h.2), hJ h3, show Nat.ble h es.length = false from by rw [Bool.eq_false_iff]; intro e; exact h4 (fW e)]
      ·rw [if_neg (fun h => h3 h.1), show Nat.ble l h = false from by rw [Bool.eq_false_iff]; intro e; exact h3 (fW e)]
      rw [if_neg (fun h => h3 h.1), show Nat.ble l h = false from by rw [Bool.eq_false_iff]; intro e; exact h3 (fW e)]
   rw [if_neg (fun h => h2 h.2), show Nat.blt 0 size = false from by rw [Bool.eq_false_iff]; intro e; exact h2 (by rwa [Nat.blt_eq] at e)]
  rw [if_neg (fun h => h1 h.1), show sizedB size es = false from by rw [Bool.eq_false_iff]; intro e; exact h1 (fw.1 e)]
 ·funext size bytes es ds
  cases size with
  | zero => rfl
  | succ s =>
   dsimp only
   by_cases hc : (∀ d ∈ ds, d.cells.length = s + 1) /\ (∀ d ∈ es, d.cells.length = s + 1) /\ 0 < bytes /\ (es.length + ds.length) * bytes <= 140737488355328 /\ es.length + ds.length <= jy
   ·rw [fw.2 hc.1, fw.2 hc.2.1, show Nat.blt 0 bytes = true from by rw [Nat.blt_eq]; exact hc.2.2.1, hJ hc.2.2.2.1, hJ hc.2.2.2.2]
    exact (if_pos hc).symm
   rw [if_neg hc]
   split
   ·rename_i a1 a2 a3 a4 a5
    rw [Nat.blt_eq] at a3
    exact absurd ⟨fw.1 a1, fw.1 a2, a3, fW a4, fW a5⟩ hc
   rfl
 ·funext td k es; exact Er td k es 0
 funext x y
 rw [gp]
 by_cases h : x < y <;> simp [h]
end Go.Tp

namespace Go.Tp
abbrev Sl := List (Nat × ae)
structure ac where
 sl : Sl
 locs : Heap
 heap : Heap
 next : Nat
/-- The value of a slot: the newest. -/
noncomputable def pB (l : Sl) (t : Nat) : ae :=
 @List.rec (Nat × ae) (fun _ => ae) .undef (fun p _ ih => @Bool.rec (fun _ => ae) ih p.2 (Nat.beq p.1 t)) l
theorem yn (t : Nat) : pB [] t = .undef := rfl
theorem gA (d : Nat) (v : ae) (r : Sl) (t : Nat) : pB ((d, v) :: r) t = if d = t then v else pB r t := by
 have e : pB ((d, v) :: r) t = @Bool.rec (fun _ => ae) (pB r t) v (Nat.beq d t) := rfl
 rw [e]
 by_cases h : d = t
 ·have : Nat.beq d t = true := by rw [Nat.beq_eq]; exact h
  rw [this, if_pos h]
 have : Nat.beq d t = false := by rw [Bool.eq_false_iff]; intro hc; rw [Nat.beq_eq] at hc; exact h hc
 rw [this, if_neg h]
noncomputable def DY : Nat -> Nat -> Sl -> List ae
 | 0, _, _ => []
 | n + 1, k, l => pB l k :: DY n (k + 1) l
theorem mr : ∀ (n k : Nat) (l : Sl), (DY n k l).length = n
 | 0, _, _ => rfl
 | n + 1, k, l => by simp [DY, mr n]
theorem kN : ∀ (n k : Nat) (l : Sl) (t : Nat), (DY n k l)[t]? = if t < n then some (pB l (k + t)) else none
 | 0, _, _, _ => by simp [DY]
 | n + 1, k, l, 0 => by simp [DY]
 | n + 1, k, l, t + 1 => by
  simp only [DY, List.getElem?_cons_succ, kN n (k + 1) l t]
  rw [show k + 1 + t = k + (t + 1) by omega]
  by_cases h : t < n
  ·rw [if_pos h, if_pos (by omega)]
  rw [if_neg h, if_neg (by omega)]
theorem BQ (n : Nat) (l : Sl) (d : Nat) (v : ae) : (DY n 0 l).set d v = DY n 0 ((d, v) :: l) := by
 apply List.ext_getElem?
 intro i
 rw [List.getElem?_set, mr, kN, kN, Nat.zero_add, gA]
 by_cases h : d = i
 ·subst h; simp
 rw [if_neg h, if_neg h]
noncomputable def zA (f : ae -> ae) (l : Sl) : Sl := @List.rec (Nat × ae) (fun _ => Sl) [] (fun p _ ih => (p.1, f p.2) :: ih) l
theorem D1 {f : ae -> ae} (hf : f .undef = .undef) (t : Nat) : ∀ l : Sl, pB (zA f l) t = f (pB l t)
 | [] => by rw [show zA f [] = [] from rfl, yn, hf]
 |(d, v) :: r => by
  have e : zA f ((d, v) :: r) = (d, f v) :: zA f r := rfl
  rw [e, gA, gA]
  split
  ·rfl
  exact D1 hf t r
theorem oX {f : ae -> ae} (hf : f .undef = .undef) : ∀ (n k : Nat) (l : Sl), (DY n k l).map f = DY n k (zA f l)
 | 0, _, _ => rfl
 | n + 1, k, l => by simp only [DY, List.map_cons, D1 hf, oX hf n]
def qn (n : Name) (a : ae) : ae := if mentions n a = true then .undef else a
theorem qo (n : Name) : ∀ l, cP n l = l.map (qn n)
 | [] => rfl
 | a :: r => by rw [cP, qo n r]; rfl
theorem Ek (n : Name) (ds : List aq) : ∀ l, gr n ds l = l.map (vF n ds)
 | [] => by simp [gr]
 | a :: r => by simp [gr, Ek n ds r]
theorem xv (n m : Name) : ∀ l, dS n m l = l.map (rh n m)
 | [] => by simp [dS]
 | a :: r => by simp [dS, xv n m r]
noncomputable def ac.aw (n : Nat) (f : ac) : aa := ⟨DY n 0 f.sl, f.locs, f.heap, f.next⟩
section
variable (E : bq) (G : bE) (H : Hints) (n : Nat)
noncomputable def pC (f : ac) (t : Nat) : ae := @Bool.rec (fun _ => ae) .undef (pB f.sl t) (Nat.blt t n)
theorem iP (f : ac) (t : Nat) : bp (f.aw n).tmps t = pC n f t := by
 unfold bp pC ac.aw
 rw [kN]
 by_cases h : t < n
 ·have : Nat.blt t n = true := by rw [Nat.blt_eq]; exact h
  rw [if_pos h, this, Nat.zero_add]
 have : Nat.blt t n = false := by rw [Bool.eq_false_iff]; intro hc; rw [Nat.blt_eq] at hc; exact h hc
 rw [if_neg h, this]
def jc (f : ac) (dst : Option Tmp) (v : ae) : ac :=
 match f, dst with
 | ⟨sl, locs, heap, next⟩, some d => ⟨(d, v) :: sl, locs, heap, next⟩
 | f, none => f
theorem dT (f : ac) (dst : Option Tmp) (v : ae) : (jc f dst v).aw n = (f.aw n).put dst v := by
 cases dst with
 | none => rfl
 | some d => simp only [jc, ac.aw, aa.put, BQ]
noncomputable def nb (f : ac) : Operand -> ae
 | .tmp t => pC n f t
 | .const v => cd v
 | .global g => match G g with | some cs => .ref cs | none => .undef
 | .func g => .fn (.func g) [] []
theorem lP (f : ac) (x : Operand) : dZ G (f.aw n) x = nb G n f x := by
 cases x with
 | tmp t => exact iP n f t
 | const v => rfl
 | global g => rfl
 | func g => rfl
def NH (mv : Option Nat) (k : Nat) : Bool := match mv with | none => false | some j => Nat.beq j k
theorem IC (mv : Option Nat) (k : Nat) : (NH mv k = true) ↔ mv = some k := by
 cases mv with
 | none => simp [NH]
 | some j => simp [NH]
noncomputable def fF (f : ac) (mv : Option Nat) : Nat -> List Operand -> List ae
 | _, [] => []
 | k, x :: r => (match NH mv k with | true => nb G n f x | false => cD (nb G n f x)) :: fF f mv (k + 1) r
theorem og (f : ac) (mv : Option Nat) : ∀ (xs : List Operand) (k : Nat), aJ G (f.aw n) mv k xs = fF G n f mv k xs
 | [], _ => rfl
 | x :: r, k => by
  simp only [aJ, fF, lP, og f mv r (k + 1)]
  by_cases h : mv = some k
  ·rw [if_pos h, (IC mv k).2 h]
  have : NH mv k = false := by rw [Bool.eq_false_iff]; intro hc; exact h ((IC mv k).1 hc)
  rw [if_neg h, this]
noncomputable def se (f : ac) (mv : Option Nat) (xs : List Operand) : ac :=
 match mv with
 | none => f
 | some k => match xs[k]? with
  | some (.tmp t) => jc f (some t) (cD (pC n f t))
  | _ => f
theorem yy (f : ac) (mv : Option Nat) (xs : List Operand) : (se n f mv xs).aw n = bB (f.aw n) mv xs := by
 unfold se bB
 cases mv with
 | none => rfl
 | some k =>
  dsimp only
  cases h : xs[k]? with
  | none => rfl
  | some x =>
   cases x with
   | tmp t => rw [dT]; simp only [aa.put, iP]
   | _ => rfl
def rC : Name -> Name -> Bool
 | .loc i, .loc j => Nat.beq i j
 | .out i, .out j => Nat.beq i j
 | _, _ => false
theorem jK (a b : Name) : rC a b = true ↔ a = b := by
 cases a <;> cases b <;> simp [rC]
def zg (k : Name) : Heap -> Option aN
 | [] => none
 |(m, o) :: r => match rC m k with | true => some o | false => zg k r
theorem sH (k : Name) : ∀ l, zg k l = dM k l
 | [] => rfl
 |(m, o) :: r => by
  simp only [zg, dM, sH k r]
  by_cases h : m = k
  ·rw [if_pos h, (jK m k).2 h]
  have : rC m k = false := by rw [Bool.eq_false_iff]; intro hc; exact h ((jK m k).1 hc)
  rw [if_neg h, this]
def za (k : Name) (o' : aN) : Heap -> Heap
 | [] => []
 |(m, o) :: r => match rC m k with | true => (m, o') :: r | false => (m, o) :: za k o' r
def sI (k : Name) : Heap -> Heap
 | [] => []
 |(m, o) :: r => match rC m k with | true => sI k r | false => (m, o) :: sI k r
theorem sy (k : Name) (o' : aN) : ∀ l, za k o' l = hZ k o' l
 | [] => rfl
 |(m, o) :: r => by
  simp only [za, hZ, sy k o' r]
  by_cases h : m = k
  ·rw [if_pos h, (jK m k).2 h]
  have : rC m k = false := by rw [Bool.eq_false_iff]; intro hc; exact h ((jK m k).1 hc)
  rw [if_neg h, this]
theorem oE (k : Name) : ∀ l, sI k l = jn k l
 | [] => rfl
 |(m, o) :: r => by
  simp only [sI, jn, oE k r]
  by_cases h : m = k
  ·rw [if_pos h, (jK m k).2 h]
  have : rC m k = false := by rw [Bool.eq_false_iff]; intro hc; exact h ((jK m k).1 hc)
  rw [if_neg h, this]
def NY (f : ac) (k : Name) : Option aN :=
 match k with
 | .loc i => zg (.loc i) f.locs
 | .out o => zg (.out o) f.heap
theorem Ch (f : ac) (k : Name) : (f.aw n).obj k = NY f k := by
 cases k <;> simp [aa.obj, NY, ac.aw, sH]
def pj (f : ac) (o : Op) (vals : List ae) : Option aN := match looks o vals with | some k => NY f k | none => none
theorem yt (f : ac) (o : Op) (vals : List ae) : bd (f.aw n) o vals = pj f o vals := by
 unfold bd pj
 cases looks o vals with
 | none => rfl
 | some k => exact Ch n f k
def rW (f : ac) (k : Name) (o : aN) : Option ac :=
 match f, k with
 | ⟨sl, locs, heap, next⟩, .loc i => some ⟨sl, za (.loc i) o locs, heap, next⟩
 | ⟨sl, locs, heap, next⟩, .out i => if cS o = true then some ⟨sl, locs, za (.out i) o heap, next⟩ else none
theorem GK (f : ac) (k : Name) (o : aN) : (f.aw n).setObj k o = (rW f k o).map (·.aw n) := by
 obtain ⟨sl, locs, heap, next⟩ := f
 cases k with
 | loc i => simp [aa.setObj, rW, ac.aw, sy]
 | out i =>
  simp only [aa.setObj, rW, ac.aw, sy]
  split <;> simp [ac.aw]
noncomputable def Q2 (f : ac) (d : Nat) (o : aN) : ac :=
 match f with
 | ⟨sl, locs, heap, next⟩ => ⟨(d, xR d o) :: zA (qn (.loc d)) sl, (.loc d, o) :: jT (.loc d) locs, heap, next⟩
theorem IK (f : ac) (d : Nat) (o : aN) : (Q2 f d o).aw n = newObj (f.aw n) d o := by
 obtain ⟨sl, locs, heap, next⟩ := f
 simp only [Q2, newObj, ac.aw, qo]
 rw [oX (f := qn (.loc d)) (by simp [qn, mentions]), BQ]
noncomputable def Ci (f : ac) (d : Nat) (o : aN) (sz len : Nat) : ac :=
 match f with
 | ⟨sl, locs, heap, next⟩ => ⟨(d, .win (.loc d) sz 0 len) :: zA (qn (.loc d)) sl, (.loc d, o) :: jT (.loc d) locs, heap, next⟩
theorem GN (f : ac) (d : Nat) (o : aN) (sz len : Nat) : (Ci f d o sz len).aw n = mq (f.aw n) d o sz len := by
 obtain ⟨sl, locs, heap, next⟩ := f
 simp only [Ci, mq, ac.aw, qo]
 rw [oX (f := qn (.loc d)) (by simp [qn, mentions]), BQ]
noncomputable def lL (o : Oper) (k : Option Name) (f : ac) (out : Out) : Option ac :=
 match out with
 | ⟨val, eff⟩ => match eff with
  | .keep => some (jc f o.dst val)
  | .set ob' => (match k with
   | some k => (match rW f k ob' with | some f => some (jc f o.dst val) | none => none)
   | none => none)
  | .new ob' => (match o.dst with
   | some d => if lM d ob' = true then some (Q2 f d ob') else none
   | none => none)
  | .row ob' sz len => (match o.dst with
   | some d => if lM d ob' = true then some (Ci f d ob' sz len) else none
   | none => none)
  | .fresh ob' => (match f with
   | ⟨sl, locs, heap, next⟩ => if cS ob' = true then some (jc ⟨sl, locs, (.out next, ob') :: heap, next + 1⟩ o.dst (qt next ob')) else none)
  | .grow ob' sz len => (match f with
   | ⟨sl, locs, heap, next⟩ => match k with
    | some (.loc j) => if cS ob' = true then some (jc ⟨sl, sI (.loc j) locs, (.out next, ob') :: heap, next + 1⟩ o.dst (.win (.out next) sz 0 len)) else none
    | some (.out j) => if cS ob' = true then some (jc ⟨sl, locs, (.out next, ob') :: sI (.out j) heap, next + 1⟩ o.dst (.win (.out next) sz 0 len)) else none
    | none => if cS ob' = true then some (jc ⟨sl, locs, (.out next, ob') :: heap, next + 1⟩ o.dst (.win (.out next) sz 0 len)) else none)
theorem Ej (o : Oper) (k : Option Name) (f : ac) (out : Out) : du o k (f.aw n) out = (lL o k f out).map (·.aw n) := by
 obtain ⟨val, eff⟩ := out
 unfold du lL
 cases eff with
 | keep => simp [dT]
 | set ob' =>
  cases k with
  | none => rfl
  | some k =>
   dsimp only
   rw [GK]
   cases rW f k ob' with
   | none => rfl
   | some f' => simp [dT]
 | new ob' =>
  dsimp only
  cases o.dst with
  | none => rfl
  | some d => dsimp only; split <;> simp [IK]
 | row ob' sz len =>
  dsimp only
  cases o.dst with
  | none => rfl
  | some d => dsimp only; split <;> simp [GN]
 | fresh ob' =>
  obtain ⟨sl, locs, heap, next⟩ := f
  dsimp only
  split
  ·simp only [Option.map_some, dT]; rfl
  rfl
 | grow ob' sz len =>
  obtain ⟨sl, locs, heap, next⟩ := f
  dsimp only
  cases k with
  | none =>
   dsimp only
   split
   ·simp only [Option.map_some, dT, oE]; rfl
   rfl
  | some k =>
   cases k with
   | loc j =>
    dsimp only
    split
    ·simp only [Option.map_some, dT, oE]; rfl
    rfl
   | out j =>
    dsimp only
    split
    ·simp only [Option.map_some, dT, oE]; rfl
    rfl
noncomputable def Cd (o : Oper) (mv : Option Nat) (xs : List Operand) (take : Bool) (f : ac) (vals : List ae) : Option ac :=
 match iR E take o.op vals (pj f o.op vals) with
 | none => none
 | some out => lL o (looks o.op vals) (se n f mv xs) out
noncomputable def uR (q take : Bool) (o : Oper) (f : ac) : Option ac :=
 Cd E n o (jL q o.op) (opsL o.op) take f (fF G n f (jL q o.op) 0 (opsL o.op))
theorem rV (q take : Bool) (o : Oper) (f : ac) : cK E G q take o (f.aw n) = (uR E G n q take o f).map (·.aw n) := by
 unfold cK uR Cd
 rw [og, yt]
 split
 ·rename_i h; rw [h]; rfl
 rename_i out h
 rw [h]
 dsimp only
 rw [← yy, Ej]
/-! Calls -/
noncomputable def na : ac -> List Operand -> List ae × ac
 | f, [] => ([], f)
 | f, x :: r =>
  match na (se n f (some 0) [x]) r with
  |(vs, f') => (nb G n f x :: vs, f')
theorem yr : ∀ (xs : List Operand) (f : ac), cy G (f.aw n) xs = ((na G n f xs).1, (na G n f xs).2.aw n)
 | [], f => rfl
 | x :: r, f => by
  simp only [cy, na, ← yy, yr r, lP]
noncomputable def tJ (fz : Bool) (k : Name) (f : ac) (args : List ae) : Option (ac × List ae) :=
 match f with
 | ⟨sl, locs, heap, next⟩ => match k, zg k locs with
  | .loc _, some (.cells cs) =>
   match rX fz k args cs with
   | some ds => some (⟨zA (vF k ds) sl, qv (gr k ds) (jn k locs), heap, next⟩, gr k ds args)
   | none => if bF (dS k (.out next) cs) = true then
    some (⟨zA (rh k (.out next)) sl, qv (dS k (.out next)) (jn k locs), (.out next, .cells (dS k (.out next) cs)) :: heap, next + 1⟩, dS k (.out next) args)
   else none
  | .loc _, some (.map es) =>
   some (⟨zA (rh k (.out next)) sl, qv (dS k (.out next)) (jn k locs), (.out next, .map es) :: heap, next + 1⟩, dS k (.out next) args)
  | _, _ => none
theorem AK (fz : Bool) (k : Name) (f : ac) (args : List ae) : rq fz k (f.aw n) args = (tJ fz k f args).map (fun x => (x.1.aw n, x.2)) := by
 obtain ⟨sl, locs, heap, next⟩ := f
 unfold rq tJ
 simp only [ac.aw, sH]
 cases k with
 | out i => rfl
 | loc i =>
  cases dM (.loc i) locs with
  | none => rfl
  | some ob =>
   cases ob with
   | cells cs =>
    dsimp only
    cases rX fz (.loc i) args cs with
    | some ds => simp only [Ek, Option.map_some, ac.aw]; rw [oX (by simp [vF])]
    | none =>
     dsimp only
     by_cases hno : bF (dS (.loc i) (.out next) cs) = true
     ·refine (if_pos hno).trans ?_
      rw [if_pos hno]
      simp only [xv, Option.map_some, ac.aw]; rw [oX (by simp [rh])]
     refine (if_neg hno).trans ?_
     rw [if_neg hno]; rfl
   | map es => simp only [xv, Option.map_some, ac.aw]; rw [oX (by simp [rh])]
noncomputable def uT (fz : Bool) : List Name -> ac -> List ae -> ac × List ae
 | [], f, args => (f, args)
 | k :: ks, f, args =>
  match tJ fz k f args with
  | some (f', args') => uT fz ks f' args'
  | none => uT fz ks f args
theorem rZ (fz : Bool) : ∀ (ks : List Name) (f : ac) (args : List ae), tp fz ks (f.aw n) args = ((uT fz ks f args).1.aw n, (uT fz ks f args).2)
 | [], _, _ => rfl
 | k :: ks, f, args => by
  simp only [tp, uT, AK]
  cases tJ fz k f args with
  | none => exact rZ fz ks f args
  | some x => exact rZ fz ks x.1 x.2
/-- What a call's arguments lead to. -/
def sd (f : ac) (args : List ae) : List Name :=
 match qJ (nM args) [] with
 | [] => []
 | l => RL (yK f.locs f.locs.length l)
theorem GO (f : ac) (args : List ae) : Gf (f.aw n) args = sd f args := rfl
noncomputable def pn (c : Call) (f : ac) : Option (FuncId × List ae × ac) :=
 match c.callee with
 | .value x => (match nb G n f x with
  | .fn (.func g) first captured =>
   if E.fn g = true then
    match (match H.moves g with | true => na G n f c.args.toList | false => (fF G n f none 0 c.args.toList, f)) with
    |(vs, f1) => (match uT (!H.caps g) (sd f1 (first ++ vs ++ captured)) f1 (first ++ vs ++ captured) with
     |(f2, args) => if bF args = true then some (g, args, f2) else none)
   else none
  | _ => none)
 | _ => none
theorem yz (c : Call) (f : ac) : kY E G H c (f.aw n) = (pn E G H n c f).map (fun x => (x.1, x.2.1, x.2.2.aw n)) := by
 unfold kY pn
 cases c.callee with
 | builtin b => rfl
 | invoke a b => rfl
 | value x =>
  dsimp only
  rw [lP]
  cases nb G n f x with
  | fn fo first captured =>
   cases fo with
   | func g =>
    dsimp only
    by_cases hfn : E.fn g = true
    ·rw [if_pos hfn, if_pos hfn]
     have e : (if H.moves g = true then cy G (f.aw n) c.args.toList else (aJ G (f.aw n) none 0 c.args.toList, f.aw n)) =
       ((match H.moves g with | true => na G n f c.args.toList | false => (fF G n f none 0 c.args.toList, f)).1, (match H.moves g with | true => na G n f c.args.toList | false => (fF G n f none 0 c.args.toList, f)).2.aw n) := by
      cases hm : H.moves g with
      | true => rw [if_pos rfl, yr]
      | false => rw [if_neg (by simp), og]
     rw [e]
     generalize (match H.moves g with | true => na G n f c.args.toList | false => (fF G n f none 0 c.args.toList, f)) = pr
     obtain ⟨vs, f1⟩ := pr
     dsimp only
     rw [GO, rZ]
     generalize uT (!H.caps g) (sd f1 (first ++ vs ++ captured)) f1 (first ++ vs ++ captured) = pr
     obtain ⟨f2, args⟩ := pr
     dsimp only
     by_cases hno : bF args = true
     ·rw [if_pos hno, if_pos hno]; rfl
     rw [if_neg hno, if_neg hno]; rfl
    rw [if_neg hfn, if_neg hfn]; rfl
   | _ => rfl
  | _ => rfl
noncomputable def lQ (c : Call) (f : ac) : Option (FuncId × List ae × ac) :=
 match c.callee with
 | .value x => (match nb G n f x with
  | .fn (.func g) first captured =>
   if E.fn g = true then
    match (match H.moves g with | true => na G n f c.args.toList | false => (fF G n f none 0 c.args.toList, f)) with
    |(vs, f1) => if bF (first ++ vs ++ captured) = true then some (g, first ++ vs ++ captured, f1) else none
   else none
  | _ => none)
 | _ => none
theorem uZ (c : Call) (f : ac) : dv E G H c (f.aw n) = (lQ E G H n c f).map (fun x => (x.1, x.2.1, x.2.2.aw n)) := by
 unfold dv lQ
 cases c.callee with
 | builtin b => rfl
 | invoke a b => rfl
 | value x =>
  dsimp only
  rw [lP]
  cases nb G n f x with
  | fn fo first captured =>
   cases fo with
   | func g =>
    dsimp only
    by_cases hfn : E.fn g = true
    ·rw [if_pos hfn, if_pos hfn]
     have e : (if H.moves g = true then cy G (f.aw n) c.args.toList else (aJ G (f.aw n) none 0 c.args.toList, f.aw n)) =
       ((match H.moves g with | true => na G n f c.args.toList | false => (fF G n f none 0 c.args.toList, f)).1, (match H.moves g with | true => na G n f c.args.toList | false => (fF G n f none 0 c.args.toList, f)).2.aw n) := by
      cases hm : H.moves g with
      | true => rw [if_pos rfl, yr]
      | false => rw [if_neg (by simp), og]
     rw [e]
     generalize (match H.moves g with | true => na G n f c.args.toList | false => (fF G n f none 0 c.args.toList, f)) = pr
     obtain ⟨vs, f1⟩ := pr
     dsimp only
     by_cases hno : bF (first ++ vs ++ captured) = true
     ·rw [if_pos hno, if_pos hno]; rfl
     rw [if_neg hno, if_neg hno]; rfl
    rw [if_neg hfn, if_neg hfn]; rfl
   | _ => rfl
  | _ => rfl
noncomputable def gm (ops : List Oper) (f : ac) (g : Option (Nat × Bool)) : Option Bool :=
 match g with
 | none => some true
 | some (j, want) => (match ops[j]? with
  | some o => (match o.dst with
   | some t => (match pC n f t with
    | .dat (.flat (.bool b)) => some (b == want)
    | .tup [] => some false
    | _ => none)
   | none => none)
  | none => none)
theorem jZ (ops : List Oper) (f : ac) (g : Option (Nat × Bool)) : dj ops (f.aw n) g = gm n ops f g := by
 unfold dj gm
 cases g with
 | none => rfl
 | some p =>
  obtain ⟨j, want⟩ := p
  dsimp only
  cases ops[j]? with
  | none => rfl
  | some o =>
   dsimp only
   cases o.dst with
   | none => rfl
   | some t => dsimp only; rw [iP]; rfl
noncomputable def nY (fh : Bool) (all : List Oper) (o : Oper) (f : ac) : Option ae :=
 match gm n all f o.guard with
 | none => none
 | some b =>
  if b = true then
   if mC o.op = true then (match iR E false o.op [] none with | some _ => some .undef | none => none)
   else (match cV o.op with
    | some _ => none
    | none =>
     if (im o.op && nO fh (looks o.op (fF G n f none 0 (opsL o.op)))) = true then
      (match iR E false o.op (fF G n f none 0 (opsL o.op)) (pj f o.op (fF G n f none 0 (opsL o.op))) with
       | some out => (match out.eff with | .keep => some out.val | _ => none)
       | none => none)
     else none)
  else some (.tup [])
theorem AJ (fh : Bool) (all : List Oper) (o : Oper) (f : ac) : eE E G fh all o (f.aw n) = nY E G n fh all o f := by
 unfold eE nY
 rw [jZ, og, yt]
 rfl
def NX (f : ac) (k : Name) (o : aN) : ac :=
 match f, k with
 | ⟨sl, locs, heap, next⟩, .loc i => ⟨sl, za (.loc i) o locs, heap, next⟩
 | ⟨sl, locs, heap, next⟩, .out i => ⟨sl, locs, za (.out i) o heap, next⟩
theorem NW (f : ac) (k : Name) (o : aN) : (NX f k o).aw n = (f.aw n).ju k o := by
 obtain ⟨sl, locs, heap, next⟩ := f
 cases k <;> simp [NX, ac.aw, aa.ju, sy]
noncomputable def kQ (fh : Bool) (all : List Oper) : List Nat -> ac -> Option ac
 | [], f => some f
 | i :: r, f =>
  match all[i]? with
  | some o => (match o.op, o.dst, o.guard with
   | .load _ (.tmp u), some t, none => (match pC n f u with
    | .ptr k off => if BP fh k = true then (match NY f k with
     | some (.cells cs) => (match cs[off]? with
      | some (.own es) => (match pC n f t with
       | .dat (.slice _) => kQ fh all r (NX (jc f (some t) (.own es)) k (.cells (dd off [.dat (.slice es)] cs)))
       | _ => none)
      | _ => none)
     | _ => none) else none
    | _ => none)
   | _, _, _ => none)
  | none => none
theorem mG (fh : Bool) (all : List Oper) : ∀ (tk : List Nat) (f f' : ac), kQ n fh all tk f = some f' -> dg fh all tk (f.aw n) = some (f'.aw n)
 | [], f, f', h => by simp [kQ] at h; subst h; rfl
 | i :: r, f, f', h => by
  simp only [kQ] at h
  split at h
  ·rename_i o ho
   split at h
   ·rename_i T u t hop hd hg
    split at h
    ·rename_i k off hu
     split at h
     ·rename_i hok
      split at h
      ·rename_i cs hob
       split at h
       ·rename_i es hes
        split at h
        ·rename_i es2 ht
         have ih := mG fh all r _ _ h
         rw [NW, dT] at ih
         simp only [dg, ho, hop, hd, hg]
         rw [iP, hu]
         dsimp only
         rw [if_pos hok, Ch, hob]
         dsimp only
         rw [hes]
         dsimp only
         rw [iP, ht]
         exact ih
        simp at h
       simp at h
      simp at h
     simp at h
    simp at h
   simp at h
  simp at h
noncomputable def M8 (m : Name) (l : Sl) : Bool := @List.rec (Nat × ae) (fun _ => Bool) false (fun p _ ih => mentions m p.2 || ih) l
theorem DZ {m : Name} (t : Nat) : ∀ {l : Sl}, M8 m l = false -> mentions m (pB l t) = false
 | [], _ => by rw [yn]; simp [mentions]
 |(d, v) :: r, h => by
  have e : M8 m ((d, v) :: r) = (mentions m v || M8 m r) := rfl
  rw [e, Bool.or_eq_false_iff] at h
  rw [gA]
  split
  ·exact h.1
  exact DZ t h.2
theorem Ic {m : Name} {l : Sl} (h : M8 m l = false) : ∀ n k : Nat, aX m (DY n k l) = false
 | 0, _ => by simp [DY, aX]
 | n + 1, k => by simp only [DY, aX, DZ k h, Ic h n (k + 1), Bool.or_self]
noncomputable def mH (all : List Oper) (mk : Option Nat) (f : ac) : Option ac :=
 match mk with
 | none => some f
 | some i => (match all[i]? with
  | some o => (match o.op, o.dst, o.guard with
   | .alloc t, some d, none => (match E.ty t with
    | some ti => if ee (bA (cd ti.zero)) = true /\ aX (.loc d) (bA (cd ti.zero)) = false /\ d < n /\ M8 (.loc d) f.sl = false then some (Q2 f d (.cells (bA (cd ti.zero)))) else none
    | none => none)
   | _, _, _ => none)
  | none => none)
theorem jB (all : List Oper) (mk : Option Nat) (f f' : ac) (h : mH E n all mk f = some f') : gJ E all mk (f.aw n) = some (f'.aw n) := by
 unfold mH at h
 unfold gJ
 have hl : (f.aw n).tmps.length = n := mr n 0 f.sl
 cases mk with
 | none => simp at h; subst h; rfl
 | some i =>
  dsimp only at h ⊢
  cases hi : all[i]? with
  | none => rw [hi] at h; simp at h
  | some o =>
   rw [hi] at h
   dsimp only at h ⊢
   split at h
   ·rename_i t d hop hd hg
    rw [hop, hd, hg]
    dsimp only
    cases hty : E.ty t with
    | none => rw [hty] at h; simp at h
    | some ti =>
     rw [hty] at h
     dsimp only at h ⊢
     rw [hl]
     split at h
     ·rename_i hc
      rw [if_pos ⟨hc.1, hc.2.1, hc.2.2.1, Ic hc.2.2.2 n 0⟩]
      simp at h
      subst h
      rw [IK]
     simp at h
   simp at h
end
end Go.Tp

namespace Go.Tp
def pu : ae -> Option aq
 | .dat (.flat v) => some (.flat v)
 | .dat (.slice es) => some (.slice es)
 | .own es => some (.slice es)
 | _ => none
def lV : Nat -> List ae -> Option (List aq)
 | 0, _ => some []
 | n + 1, a :: r => (match pu a with | some d => (match lV n r with | some l => some (d :: l) | none => none) | none => none)
 | _ + 1, [] => none
def Bq (n len : Nat) (ob : Option aN) : Option (Nat × List aq) :=
 match ob with
 | some (.cells cs) => (match Nat.ble len 4294967296 with
  | true => (match lV len cs with | some (e :: es) => some (n, e :: es) | _ => none)
  | false => none)
 | _ => none
/-- The row that a value looks at (from its first element on; elements of one cell). -/
def rowOf (a : ae) : Option (Nat × Nat) :=
 match a with
 | .win (.out n) 1 0 len => some (n, len)
 | _ => none
/-- .. as data. -/
def vN (a : ae) (heap : List (Name × aN)) : Option (Nat × List aq) :=
 match rowOf a with
 | some x => Bq x.1 x.2 (dM (.out x.1) heap)
 | none => none
def Br (t : Nat) (s : aa) : Option aa :=
 match vN (bp s.tmps t) s.heap with
 | some (n, es) => some { s with tmps := s.tmps.set t (.dat (.slice es)), heap := jn (.out n) s.heap }
 | none => none
/-- What a state describes, the other describes too, with what may be written drawn in and names added. -/
def gH (G : bE) (s s2 : aa) : Prop :=
 ∀ (w : World) (R : Own) (N : Name -> Option Nat) (tmps : List Value) (bsT bsL bsH bsF : List Nat), cR G w R N tmps s undef .undef [] bsT bsL bsH bsF ->
  ∃ R' N' bsT' bsL' bsH', cR G w R' N' tmps s2 undef .undef [] bsT' bsL' bsH' bsF /\ bz w R w R' bsF /\ (∀ o b, N (.out o) = some b -> N' (.out o) = some b)
theorem gH.refl (G : bE) (s : aa) : gH G s s := fun _ R N _ bsT bsL bsH _ h => ⟨R, N, bsT, bsL, bsH, h, bg _, fun _ _ h => h⟩
theorem gH.trans {G : bE} {s s2 s3 : aa} (h : gH G s s2) (k : gH G s2 s3) : gH G s s3 := fun w R N tmps bsT bsL bsH bsF hr => by
 obtain ⟨R1, N1, t1, l1, h1, q1, q2, q3⟩ := h w R N tmps bsT bsL bsH bsF hr
 obtain ⟨R2, N2, t2, l2, h2, p1, p2, p3⟩ := k w R1 N1 tmps t1 l1 h1 bsF q1
 exact ⟨R2, N2, t2, l2, h2, p1, q2.trans p2, fun o b ho => p3 o b (q3 o b ho)⟩
theorem pT : ∀ {n : Nat} {cs : List ae} {es : List aq}, lV n cs = some es -> es.length = n /\ ∀ (i : Nat) (d : aq), es[i]? = some d -> ∃ a, cs[i]? = some a /\ pu a = some d
 | 0, _, es, h => by simp [lV] at h; subst h; simp
 | n + 1, [], es, h => by simp [lV] at h
 | n + 1, a :: r, es, h => by
  unfold lV at h
  split at h
  ·rename_i d hd
   split at h
   ·rename_i l hl
    simp at h
    subst h
    obtain ⟨h1, h2⟩ := pT hl
    refine ⟨by simp [h1], fun i d' hi => ?_⟩
    cases i with
    | zero => simp at hi; subst hi; exact ⟨a, rfl, hd⟩
    | succ i => simpa using h2 i d' (by simpa using hi)
   simp at h
  simp at h
theorem ve {w : World} {R : Own} {N : Name -> Option Nat} {a : ae} {d : aq} (h : pu a = some d) {v : Value} {bs : List Nat} (hr : ak w R N a v bs) : eA w R v d /\ d.cells.length = 1 := by
 unfold pu at h
 split at h
 ·simp at h; subst h; exact ⟨(bY hr).2, rfl⟩
 ·simp at h; subst h; exact ⟨(bY hr).2, rfl⟩
 ·simp at h; subst h; exact ⟨(bX hr).rep, rfl⟩
 simp at h
theorem J1 {G : bE} {t : Nat} {s s2 : aa} (h : Br t s = some s2) : gH G s s2 := by
 unfold Br at h
 split at h
 rotate_left
 ·simp at h
 rename_i n es hv
 simp only [Option.some.injEq] at h
 subst h
 unfold vN at hv
 split at hv
 rotate_left
 ·simp at hv
 rename_i x hx
 obtain ⟨m, len⟩ := x
 have hwin : bp s.tmps t = .win (.out m) 1 0 len := by
  unfold rowOf at hx
  split at hx
  ·rename_i n' len' h'
   simp only [Option.some.injEq, Prod.mk.injEq] at hx
   obtain ⟨rfl, rfl⟩ := hx
   exact h'
  simp at hx
 dsimp only at hv
 unfold Bq at hv
 split at hv
 rotate_left
 ·simp at hv
 rename_i cs hob
 split at hv
 rotate_left
 ·simp at hv
 rename_i hlen
 have hlen := Nat.le_of_ble_eq_true hlen
 split at hv
 rotate_left
 ·simp at hv
 rename_i e0 es0 hcd
 simp only [Option.some.injEq, Prod.mk.injEq] at hv
 obtain ⟨rfl, rfl⟩ := hv
 obtain ⟨hel, hcs⟩ := pT hcd
 intro w R N tmps bsT bsL bsH bsF hr
 have htg := tH hwin (by simp)
 obtain ⟨v, bs0, g1, g2, _⟩ := dQ hr.tmps htg
 simp only [ak] at g2
 obtain ⟨_, b, cap, hb, rfl, hcap, _, hblt, hrow⟩ := g2
 obtain ⟨pre, b', b1, post, e1, hb', hobj, _, bs', hdel, hsub⟩ := an.oO hr.heap hob
 have : b' = b := by simp only [outs] at hb'; rw [hb] at hb'; simpa using hb'.symm
 subst this
 obtain ⟨vs, elem, sp, hblk, hrv, hRv, _⟩ := hobj
 obtain ⟨R', hR'⟩ : ∃ R' : Own, R' = fun c off => c ≠ b' /\ R c off := ⟨_, rfl⟩
 have hstep : Step w R w R' := ⟨rfl, rfl, rfl, Nat.le_refl _, fun c _ hno => ⟨rfl, fun off h => by subst hR'; exact hno off h.2⟩, fun c off _ hno => ⟨fun h => by subst hR'; exact hno h.2, rfl⟩, fun _ _ => rfl⟩
 have hk : ∀ bs, b' ∉ bs -> bz w R w R' bs := fun bs hbs => ⟨hstep, fun c hc _ => ⟨rfl, fun off h => by subst hR'; exact ⟨fun e => hbs (e ▸ hc), h⟩⟩⟩
 have hnd := hr.nodup
 simp only [List.nil_append] at hnd
 subst e1
 have hp : (bsT ++ (bsL ++ ((pre ++ (b' :: b1) ++ post) ++ bsF))).Perm (b' :: (b1 ++ (bsT ++ (bsL ++ ((pre ++ post) ++ bsF))))) := by
  rw [List.perm_iff_count]; intro q; simp only [List.count_append, List.count_cons]; omega
 have hnd2 := List.nodup_cons.1 (hp.nodup_iff.1 hnd)
 have hno := hnd2.1
 simp only [List.mem_append, not_or] at hno
 obtain ⟨_, n1, n2, ⟨n3, n3'⟩, n4⟩ := hno
 have n5 : b' ∉ bs' := fun hm => by
  rcases List.mem_append.1 (hsub.subset hm) with h | h
  ·exact n3 h
  exact n3' h
 have hrep : eA w R' (.slice (some ⟨b', 0, none⟩) len cap) (.slice (e0 :: es0)) := by
  have hl : (e0 :: es0).length = len := hel
  rw [← hl]
  have hcell : ∀ i, i < (e0 :: es0).length -> ∃ a x bx, cs[i]? = some a /\ pu a = some (e0 :: es0)[i]! /\ vs[i]? = some x /\ ak w R (outs N) a x bx := by
   intro i hi
   obtain ⟨a, ha, hd⟩ := hcs i _ (List.getElem?_eq_getElem hi)
   obtain ⟨x, bx, q1, q2, _⟩ := dQ hrv (wi ha)
   exact ⟨a, x, bx, ha, by rw [hd, getElem!_pos _ i hi], by rw [← Array.getElem?_toList]; exact q1, q2⟩
  refine .slice b' 0 cap 1 _ (fun i _ => vs[i]?.getD default) (by omega) ?_ (by rw [hl]; exact hcap) (by rw [hl]; simp only [jy]; omega) ?_ ?_
  ·intro e he
   obtain ⟨i, hi, rfl⟩ := List.getElem_of_mem he
   obtain ⟨a, x, bx, _, hd, _, hx⟩ := hcell i hi
   rw [getElem!_pos _ i hi] at hd
   exact (ve hd hx).2
  ·intro i j hi hj
   obtain ⟨a, x, bx, _, hd, hvx, hx⟩ := hcell i hi
   have : j = 0 := by omega
   subst this
   refine ⟨?_, fun h => by subst hR'; exact h.1 rfl⟩
   rw [cell_of_row w b' _ vs elem (0, 0) hblk]
   simp [hvx]
  ·intro i j e c he hc
   have hi : i < (e0 :: es0).length := (List.getElem?_eq_some_iff.1 he).1
   obtain ⟨a, x, bx, _, hd, hvx, hx⟩ := hcell i hi
   have hee : (e0 :: es0)[i]! = e := by
    rw [getElem!_pos _ i hi]
    rw [List.getElem?_eq_getElem hi] at he
    simpa using he
   rw [hee] at hd
   obtain ⟨k1, k2⟩ := ve hd hx
   have hc' : c = e := by
    unfold pu at hd
    split at hd
    all_goals first
     |(simp at hd; subst hd; cases j with
      | zero => simpa [aq.cells] using hc.symm
      | succ j => simp [aq.cells] at hc)
     |simp at hd
   subst hc'
   rw [hvx]
   exact k1.step hstep
 obtain ⟨bsT2, p1, p2⟩ := lG (a := .dat (.slice (e0 :: es0))) (v := .slice (some ⟨b', 0, none⟩) len cap) (b := []) (X := bsL ++ (bs' ++ bsF)) t (hr.tmps.keep (hk bsT n1)) (bV (d := .slice (e0 :: es0)) hrep) (by
  have h2 := (List.nodup_append.1 hnd2.2).2.1
  rw [List.nil_append]
  refine List.Nodup.sublist ?_ h2
  exact List.Sublist.append (.refl _) (List.Sublist.append (.refl _) (List.Sublist.append hsub (.refl _))))
 have hsame : tmps.set t (.slice (some ⟨b', 0, none⟩) len cap) = tmps := by
  apply List.ext_getElem?
  intro j
  rw [List.getElem?_set]
  split
  ·rename_i hj; subst hj; split
   ·exact g1.symm
   rename_i hl; rw [List.getElem?_eq_none (by omega)]
  rfl
 rw [hsame] at p1
 exact ⟨R', N, bsT2, bsL, bs', ⟨aP _, p1, hr.locs.keep (hk bsL n2), hdel.keep (hk bs' n5), by simpa using p2, hr.next, fun g cs hg => (hr.glob g cs hg).step hstep, hr.frame⟩, hk bsF n4, fun _ _ h => h⟩
theorem GI {G : bE} (ns : List Name) (s : aa) : gH G s (tp false ns s []).1 := by
 intro w R N tmps bsT bsL bsH bsF hr
 have hr0 : cR G w R N tmps s (.tuple ([] : List Value).toArray) (.tup []) [] bsT bsL bsH bsF := ⟨by simp [ak, aj], hr.tmps, hr.locs, hr.heap, hr.nodup, hr.next, hr.glob, hr.frame⟩
 have he : tp false ns s [] = ((tp false ns s []).1, (tp false ns s []).2) := rfl
 obtain ⟨R', N', bsV', bsT', bsL', bsH', h1, h2, h3, _⟩ := mo he hr0
 refine ⟨R', N', bsT', bsL', bsH', ⟨aP _, h1.tmps, h1.locs, h1.heap, ?_, h1.next, h1.glob, h1.frame⟩, h2, h3⟩
 have := h1.nodup
 simpa using (List.nodup_append.1 this).2.1
end Go.Tp
