/- The generic layer: slices.Sorted at what maps.Keys handed back, by the shelf's contracts (keys: strings). -/
import Derived.Test.YteanmfacikjjhaaGreatDoorTpBld
import Derived.Shelf.SlIter.Nil
import Derived.Shelf.SortM.Plain
import Derived.Shelf.SortM.SortNone
namespace Go.Tp
open Go.Proofs Go.Shelf Go.RowKit Go.Maps Go.Sort Go.MapKept

/-! ### Sorted lists of strings, reckoned by the kernel -/
def leL : List UInt8 → List UInt8 → Bool
  | [], _ => true
  | _ :: _, [] => false
  | a :: l, b :: r => match Nat.blt a.toNat b.toNat with
    | true => true
    | false => (match Nat.beq a.toNat b.toNat with | true => leL l r | false => false)

theorem leL_eq : ∀ x y : List UInt8, leL x y = decide (x ≤ y)
  | [], y => by simp [leL]
  | a :: l, [] => by simp [leL]
  | a :: l, b :: r => by
    have ih := leL_eq l r
    simp only [leL]
    have e1 : Nat.blt a.toNat b.toNat = decide (a < b) := by
      by_cases h : a < b
      · rw [decide_eq_true h]; rw [Nat.blt_eq]; exact UInt8.lt_iff_toNat_lt.1 h
      · rw [decide_eq_false h]
        cases hb : Nat.blt a.toNat b.toNat
        · rfl
        · rw [Nat.blt_eq] at hb; exact absurd (UInt8.lt_iff_toNat_lt.2 hb) h
    have e2 : Nat.beq a.toNat b.toNat = decide (a = b) := by
      by_cases h : a = b
      · subst h; simp
      · rw [decide_eq_false h]
        cases hb : Nat.beq a.toNat b.toNat
        · rfl
        · exact absurd (UInt8.toNat_inj.1 (Nat.eq_of_beq_eq_true hb)) h
    rw [e1, e2]
    by_cases h1 : a < b
    · simp [h1, List.cons_le_cons_iff]
    · by_cases h2 : a = b
      · subst h2
        simp [h1, ih, List.cons_le_cons_iff]
      · simp [h1, h2, List.cons_le_cons_iff]

def insL (x : List UInt8) : List (List UInt8) → List (List UInt8)
  | [] => [x]
  | y :: r => match leL x y with | true => x :: y :: r | false => y :: insL x r
def sortL : List (List UInt8) → List (List UInt8)
  | [] => []
  | x :: r => insL x (sortL r)

theorem leL_total (x y : List UInt8) : leL x y = true ∨ leL y x = true := by
  simp only [leL_eq, decide_eq_true_eq]; exact List.le_total x y
theorem leL_trans {x y z : List UInt8} (h : leL x y = true) (k : leL y z = true) : leL x z = true := by
  simp only [leL_eq, decide_eq_true_eq] at *; exact List.le_trans h k

theorem insL_perm (x : List UInt8) : ∀ l, (insL x l).Perm (x :: l)
  | [] => List.Perm.refl _
  | y :: r => by
    unfold insL
    split
    · exact List.Perm.refl _
    · exact ((insL_perm x r).cons y).trans (List.Perm.swap x y r)
theorem sortL_perm : ∀ l, (sortL l).Perm l
  | [] => List.Perm.refl _
  | x :: r => (insL_perm x _).trans ((sortL_perm r).cons x)
theorem insL_sorted (x : List UInt8) : ∀ l : List (List UInt8), l.Pairwise (fun a b => leL a b = true) → (insL x l).Pairwise (fun a b => leL a b = true)
  | [], _ => by simp [insL]
  | y :: r, h => by
    obtain ⟨h1, h2⟩ := List.pairwise_cons.1 h
    unfold insL
    split
    · rename_i hle
      refine List.pairwise_cons.2 ⟨?_, h⟩
      intro z hz
      rcases List.mem_cons.1 hz with rfl | hz
      · exact hle
      · exact leL_trans hle (h1 z hz)
    · rename_i hle
      refine List.pairwise_cons.2 ⟨?_, insL_sorted x r h2⟩
      intro z hz
      rcases List.mem_cons.1 ((insL_perm x r).mem_iff.1 hz) with rfl | hz
      · rcases leL_total y z with h' | h'
        · exact h'
        · rw [hle] at h'; simp at h'
      · exact h1 z hz
theorem sortL_sorted : ∀ l, (sortL l).Pairwise (fun a b => leL a b = true)
  | [] => by simp [sortL]
  | x :: r => insL_sorted x _ (sortL_sorted r)

theorem sortL_eq (l : List (List UInt8)) : l.mergeSort (fun x y => decide (x ≤ y)) = sortL l := by
  have tr : ∀ a b c : List UInt8, decide (a ≤ b) = true → decide (b ≤ c) = true → decide (a ≤ c) = true := fun a b c h1 h2 => by simp only [decide_eq_true_eq] at *; exact List.le_trans h1 h2
  have to : ∀ a b : List UInt8, (decide (a ≤ b) || decide (b ≤ a)) = true := fun a b => by simp only [Bool.or_eq_true, decide_eq_true_eq]; exact List.le_total a b
  refine List.Perm.eq_of_pairwise (le := fun a b => leL a b = true) (fun a b _ _ h1 h2 => ?_) ?_ (sortL_sorted l) ((List.mergeSort_perm l _).trans (sortL_perm l).symm)
  · simp only [leL_eq, decide_eq_true_eq] at h1 h2
    exact List.le_antisymm h1 h2
  · have := List.pairwise_mergeSort tr to l
    simpa only [leL_eq] using this

def nodupL : List (List UInt8) → Bool
  | x :: y :: r => (match leL y x with | true => false | false => nodupL (y :: r))
  | _ => true

/-- A list that rises strictly holds nothing twice. -/
theorem nodupL_spec : ∀ {l : List (List UInt8)}, l.Pairwise (fun a b => leL a b = true) → nodupL l = true → l.Nodup
  | [], _, _ => List.nodup_nil
  | [x], _, _ => by simp
  | x :: y :: r, hp, h => by
    unfold nodupL at h
    split at h
    · simp at h
    · rename_i hxy
      obtain ⟨h1, h2⟩ := List.pairwise_cons.1 hp
      refine List.nodup_cons.2 ⟨?_, nodupL_spec h2 h⟩
      intro hx
      rcases List.mem_cons.1 hx with rfl | hx
      · have := leL_total x x
        rw [hxy] at this
        simp at this
      · have := (List.pairwise_cons.1 h2).1 x hx
        rw [hxy] at this
        simp at this

/-! ### The keys of a map -/
def keysOfM : List (Value × Dat) → Option (List (List UInt8))
  | [] => some []
  | (.string s, _) :: r => (match Nat.ble s.size 9223372036854775807 with | true => (match keysOfM r with | some l => some (s.data.toList :: l) | none => none) | false => none)
  | _ => none

theorem keysOfM_spec {w : World} {R : Own} : ∀ {es : List (Value × Dat)} {ents : List MapEntry} {ks : List (List UInt8)}, keysOfM es = some ks → RepMap w R es ents →
    ents.map (·.key) = ks.map encStr ∧ (∀ k ∈ ks, k.length ≤ 9223372036854775807)
  | [], ents, ks, h, hr => by simp [keysOfM] at h; simp [RepMap] at hr; subst h; subst hr; simp
  | (k, d) :: es, ents, ks, h, ⟨e, es', e1, e2, e3, e4⟩ => by
    unfold keysOfM at h
    split at h
    · rename_i heq; simp at heq
    · rename_i s x r heq
      simp at heq
      obtain ⟨⟨rfl, rfl⟩, rfl⟩ := heq
      split at h
      · rename_i hs
        split at h
        · rename_i l hl
          simp at h
          subst h
          obtain ⟨h1, h2⟩ := keysOfM_spec hl e4
          subst e1
          refine ⟨by simp [h1, e2, encStr], ?_⟩
          intro k hk
          rcases List.mem_cons.1 hk with rfl | hk
          · have := Nat.le_of_ble_eq_true hs
            simpa using this
          · exact h2 k hk
        · simp at h
      · simp at h
    · simp at h

def strDat (x : List UInt8) : Dat := .flat (.string ⟨⟨x⟩⟩)

def sortedX (g : Nat) (args : List AVal) (heap : Heap) (next : Nat) : Option XRes :=
  match args with
  | [.fn (.func g') [] [.ptr (.out k) 0]] => (match Nat.beq g' g with
    | true => (match agetF (.out k) heap with
      | some (.cells (.map (.out m) :: _)) => (match agetF (.out m) heap with
        | some (.map es) => (match keysOfM es with
          | some ks => (match Nat.ble ks.length 4294967296 && nodupL (sortL ks) with
            | true => (match sortL ks with
              | [] => some ⟨.dat (.flat (.slice none 0 0)), heap, next⟩
              | x :: r => some ⟨.dat (.slice ((x :: r).map strDat)), heap, next⟩)
            | false => none)
          | none => none)
        | _ => none)
      | _ => none)
    | false => none)
  | _ => none

section
variable {P : Program} {ρ ρ' : Ren} {G : Globs}

/-- A map's object, as the shelf's walk holds it. -/
theorem owns_of_rep {w : World} {R : Own} {es : List (Value × Dat)} {ents : Array MapEntry} {clock b : Nat} {k : TypeId} (hk : P.underlying k = some .string) {ks : List (List UInt8)} (hks : keysOfM es = some ks) (hnd : ks.Nodup)
    (hlen : ks.length ≤ 4294967296) (hb : w.heap[b]? = some (.map ents clock)) (hr : RepMap w R es ents.toList) (hbo : Borns ents clock) :
    ∃ D0 : DataW Unit, w.ownsMap P k (fun _ => some (.nil, [])) b ents.size D0 ∧ Maps.size D0 = ks.length ∧ (strKeys D0).Perm ks := by
  obtain ⟨h1, h2⟩ := keysOfM_spec hks hr
  have hlen2 : ents.size = ks.length := by
    have := congrArg List.length h1
    simpa using this
  have hread : ∀ x ∈ ents.toList, ∃ s : List UInt8, x.key = encStr s ∧ s ∈ ks ∧ Go.WideElems.rd P k (fun _ => some ((.nil : DataW Unit), [])) x = some (.string s, .nil) := by
    intro x hx
    have hm : x.key ∈ ents.toList.map (·.key) := List.mem_map.2 ⟨x, hx, rfl⟩
    rw [h1] at hm
    obtain ⟨s, hs, e⟩ := List.mem_map.1 hm
    refine ⟨s, e.symm, hs, ?_⟩
    have hkk : keyOf P k x.key = some (.string s) := by
      rw [← e]
      have := Go.WideMaps.keyOf_string_mk (k := k) hk (s := ⟨⟨s⟩⟩) (by have := h2 s hs; simp only [maxLen]; exact Nat.le_trans this (by decide))
      simpa [encStr] using this
    simp [Go.WideElems.rd, hkk]
  refine ⟨_, ⟨ents, clock, hb, ⟨by rw [hlen2]; simp only [maxLen]; omega, ⟨hbo.1, hbo.2, ?_⟩, fun x hx => (hread x hx).elim fun s hs => ⟨_, hs.2.2⟩⟩, Nat.le_refl _, rfl⟩, ?_, ?_⟩
  · rw [h1]
    exact hnd.map _ (fun a b hab => fun e => hab (encStr_inj e))
  · simp [Maps.size, length_sorted, hlen2]
  · have p1 := Go.WideShapes.sorted_perm (ents.toList.map (Go.WideElems.rg P k (fun _ => some ((.nil : DataW Unit), []))))
    have p2 := p1.map (fun p => strOf p.1)
    refine p2.trans ?_
    rw [List.map_map]
    have e3 : ents.toList.map ((fun p : Lit × DataW Unit => strOf p.1) ∘ Go.WideElems.rg P k (fun _ => some (.nil, []))) = ks := by
      have key : ∀ (l : List MapEntry) (ks : List (List UInt8)), l.map (·.key) = ks.map encStr → (∀ x ∈ l, ∃ s : List UInt8, x.key = encStr s ∧ Go.WideElems.rd P k (fun _ => some ((.nil : DataW Unit), [])) x = some (.string s, .nil)) →
          l.map ((fun p : Lit × DataW Unit => strOf p.1) ∘ Go.WideElems.rg P k (fun _ => some (.nil, []))) = ks := by
        intro l
        induction l with
        | nil => intro ks h _; cases ks with | nil => rfl | cons _ _ => simp at h
        | cons x l ih =>
          intro ks h hall
          cases ks with
          | nil => simp at h
          | cons s ks =>
            simp only [List.map_cons, List.cons.injEq] at h ⊢
            obtain ⟨s', hs', hrd⟩ := hall x (by simp)
            have : s' = s := encStr_inj (hs'.symm.trans h.1)
            subst this
            exact ⟨by simp [Go.WideElems.rg, hrd, strOf], ih ks h.2 fun y hy => hall y (by simp [hy])⟩
      exact key _ _ h1 fun x hx => (hread x hx).elim fun s hs => ⟨s, hs.1, hs.2.2⟩
    rw [e3]

theorem c_sorted (L6 : SlLaysZ.n6 P ρ) (L10 : SlLaysZ.n10 P ρ') (hsort : AnyZ.SortsIn P ρ Fence.wide 4) (e9 : Enters P (ρ.f 9)) (e10 : Enters P (ρ'.f 10)) (hk : P.underlying (ρ'.t 26) = some .string)
    {args : List AVal} {heap : Heap} {next : Nat} {r : XRes} (h : sortedX (ρ'.f 10) args heap next = some r) : ACalls P G (ρ.f 6) args heap next (XQ r) := by
  unfold sortedX at h
  split at h
  rotate_left
  · simp at h
  rename_i g' k
  split at h
  rotate_left
  · simp at h
  rename_i hg
  have hg := Nat.eq_of_beq_eq_true hg
  subst hg
  split at h
  rotate_left
  · simp at h
  rename_i m tl hbox
  split at h
  rotate_left
  · simp at h
  rename_i es hmap
  split at h
  rotate_left
  · simp at h
  rename_i ks hks
  split at h
  rotate_left
  · simp at h
  rename_i hc
  simp only [Bool.and_eq_true, Nat.ble_eq] at hc
  obtain ⟨hlen, hno⟩ := hc
  have hnd0 : ks.Nodup := (sortL_perm ks).nodup_iff.1 (nodupL_spec (sortL_sorted ks) hno)
  rw [agetF_eq] at hbox hmap
  intro w R N cargs bsA bsH bsF hargs hheap hnd hnx hglob hF
  obtain ⟨v0, r1, c0, d1, rfl, rfl, h0, hr1⟩ := repVs_cons_inv hargs
  obtain ⟨rfl, rfl⟩ := repVs_nil_inv hr1
  simp only [RepV] at h0
  obtain ⟨rfl, vs, us, rfl, hvs, hus⟩ := h0
  obtain ⟨rfl, _⟩ := repVs_nil_inv hvs
  obtain ⟨Bm, hBm, rfl, _⟩ := one_ptr (k := k) (by simpa using hus)
  -- the box
  obtain ⟨pre, b', b1, post, rfl, hb', hobj, _⟩ := RepObjs.split hheap hbox
  have : b' = Bm := by simp only [outs] at hb'; rw [hBm] at hb'; simpa using hb'.symm
  subst this
  obtain ⟨xs, elem, sp, hblk, hrx, _, _⟩ := hobj
  rw [List.cons_append] at hrx
  obtain ⟨x0, xr, f0, f1, hx, _, hx0, _⟩ := repVs_cons_inv hrx
  simp only [RepV] at hx0
  obtain ⟨_, bm, hbm, rfl⟩ := hx0
  have hcell : w.cell? ⟨b', 0, none⟩ = some (.map (some bm)) := by
    have : xs[0]? = some (.map (some bm)) := by rw [← Array.getElem?_toList, hx]; rfl
    simp [World.cell?, hblk, this]
  -- the map
  obtain ⟨pre2, b2, b3, post2, _, hb2, hobj2, _⟩ := RepObjs.split hheap hmap
  have : b2 = bm := by rw [hb2] at hbm; simpa using hbm
  subst this
  obtain ⟨_, _, ents, clock, hmb, hrm, hbo⟩ := hobj2
  obtain ⟨D0, hown, hsz, hperm⟩ := owns_of_rep hk hks hnd0 hlen hmb hrm hbo
  have hseq := AnyZ.keys_gives L10 Fence.wide 2 trivial rfl (by omega) b' b2 ents.size D0 w (lt_of_heap hblk) hcell hown
  have cS := AnyZ.sorted_in L6 Fence.wide 5 trivial trivial trivial trivial rfl (by omega) hsort e9 (ρ'.f 10) #[.pointer (some ⟨b', 0, none⟩)] trivial e10 _ (Maps.size D0) (by rw [hsz]; simp only [maxLen]; omega) (by rw [hsz]; omega) w hseq
  refine (callsIn_wide.1 cS).mono ?_
  rintro e w' ⟨v, ss, rfl, hS, hrow, hnil, hb⟩
  have hss : ss.mergeSort (fun x y => decide (x ≤ y)) = sortL ks := by
    have := mergeSort_of_perm (hS.trans hperm)
    exact (this.trans (sortL_eq ks))
  have hssl : ss.length = ks.length := (hS.trans hperm).length_eq
  rw [hss] at hrow
  have fin : ∀ {d : Dat}, some (XRes.mk (.dat d) heap next) = some r → RepD w' (fun b off => b < w.heap.size ∧ R b off) v d → ∃ v' cv heap' next' R' N' bsV bsH', Ending.returned v = .returned cv ∧ XQ r v' heap' next' ∧ RepV w' R' (outs N') v' cv bsV ∧ RepObjs w' R' (outs N') heap' bsH' ∧
      (bsV ++ (bsH' ++ bsF)).Nodup ∧ (∀ o b, N' (.out o) = some b → o < next') ∧ Keep w R w' R' bsF ∧ (∀ o b, N (.out o) = some b → N' (.out o) = some b) := by
    intro d hr hd
    simp only [Option.some.injEq] at hr
    subst hr
    refine ⟨_, _, _, next, _, N, [], _, rfl, ⟨rfl, rfl, rfl⟩, repV_dat hd, hheap.keep (keep_below hb _), by simpa using hnd, hnx, keep_below hb bsF, fun _ _ h => h⟩
  split at h
  · rename_i hsl
    have hk0 : ks = [] := by
      have := (sortL_perm ks).length_eq
      rw [hsl] at this
      exact List.eq_nil_of_length_eq_zero (by simpa using this.symm)
    subst hk0
    have hs0 : ss = [] := List.eq_nil_of_length_eq_zero (by simpa using hssl)
    have hv := hnil.2 hs0
    subst hv
    exact fin h (.flat rfl)
  · rename_i x r' hsl
    refine fin h ?_
    rw [hsl] at hrow
    obtain ⟨hl, hrow⟩ := hrow
    have hlen' : ss.length = (x :: r').length := by simpa using hl.symm
    rcases hrow with ⟨_, hz⟩ | ⟨g, cap, cur, rfl, hbase, hgb, q1, q2, q3, q4⟩
    · rw [hlen'] at hz; simp at hz
    · have hel : ((x :: r').map strDat).length = ss.length := by simp [hlen']
      rw [← hel]
      show RepC _ _ _ _
      refine .slice g 0 cap 1 _ (fun i _ => cur[i]?.getD default) (by omega) ?_ (by rw [hel]; exact q1) (by rw [hel, hssl]; simp only [lim]; omega) ?_ ?_
      · intro e he
        simp only [List.mem_map] at he
        obtain ⟨y, _, rfl⟩ := he
        rfl
      · intro i j hi hj
        rw [hel] at hi
        have hci : i < cur.size := by omega
        refine ⟨?_, fun hR => by omega⟩
        have : j = 0 := by omega
        subst this
        simp [World.cell?, hgb, hci]
      · intro i j e c he hc
        have hi : i < (x :: r').length := by
          rcases Nat.lt_or_ge i (x :: r').length with h' | h'
          · exact h'
          · rw [List.getElem?_eq_none (by simpa using h')] at he; simp at he
        have hcur : cur[i]? = some (encStr (x :: r')[i]) := by
          have hti : (cur.toList.take (ss.length * 1))[i]? = some (encStr (x :: r')[i]) := by
            rw [q4, List.getElem?_map, List.getElem?_eq_getElem hi]; rfl
          rw [List.getElem?_take_of_lt (by omega)] at hti
          simpa using hti
        have he' : e = strDat (x :: r')[i] := by
          rw [List.getElem?_map, List.getElem?_eq_getElem hi] at he
          simpa using he.symm
        subst he'
        have hc' : c = strDat (x :: r')[i] := by
          cases j with
          | zero => simpa [strDat, Dat.cells] using hc.symm
          | succ j => simp [strDat, Dat.cells] at hc
        subst hc'
        have hmem : (x :: r')[i] ∈ ks := (sortL_perm ks).mem_iff.1 (by rw [hsl]; exact List.getElem_mem hi)
        have hbnd := (keysOfM_spec hks hrm).2 _ hmem
        rw [hcur]
        refine .flat (w := w') (v := .string ⟨⟨(x :: r')[i]⟩⟩) ?_
        show decide ((ByteArray.mk ⟨(x :: r')[i]⟩).size ≤ 9223372036854775807) = true
        exact decide_eq_true hbnd
end
end Go.Tp
