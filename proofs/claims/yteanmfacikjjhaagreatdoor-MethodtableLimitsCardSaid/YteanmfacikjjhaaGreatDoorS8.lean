/- MethodtableLimits: the law answers true. -/
import Derived.Test.YteanmfacikjjhaaGreatDoorS7
import Derived.Test.YteanmfacikjjhaaGreatDoorI0
import Derived.Test.YteanmfacikjjhaaGreatDoorI1
import Derived.Test.YteanmfacikjjhaaGreatDoorC
namespace Go.Proofs.YteanmfacikjjhaaGreatDoor
open Go.Tp
set_option maxRecDepth 100000
set_option maxHeartbeats 4000000
def digitR (l : List UInt8) : Option XRes → Bool
  | some ⟨.dat (.flat (.string ⟨⟨b⟩⟩)), [], 0⟩ => eqB b l
  | _ => false
theorem digitR_eq {l : List UInt8} {r : Option XRes} (h : digitR l r = true) : r = some ⟨.dat (str ⟨⟨l⟩⟩), [], 0⟩ := by
  unfold digitR at h
  split at h
  · rw [eqB_eq] at h
    have h := eq_of_beq h
    subst h
    rfl
  · simp at h
theorem digit0 : allB (fun i => digitR (digs i) (Y 8 [iv (Int.ofNat i)] [] 0)) 100 = true := by kernel_rfl
theorem digit1 : allB (fun i => digitR (digs (100 + i)) (Y 8 [iv (Int.ofNat (100 + i))] [] 0)) 100 = true := by kernel_rfl
theorem digit_ok (i : Nat) (hi : i < 200) : Digit i := by
  refine Y_ok _ _ _ _ _ (digitR_eq ?_)
  rcases Nat.lt_or_ge i 100 with h | h
  · exact allB_lt digit0 i h
  · have := allB_lt digit1 (i - 100) (by omega)
    rw [show 100 + (i - 100) = i by omega] at this
    exact this
theorem ident_at {b : Nat} (h : allB (fun i => identR (Y 53 [.dat (str (nmB (b + i)))] [] 0)) 25 = true) {i : Nat} (h1 : b ≤ i) (h2 : i < b + 25) : Ident (nmB i) := by
  refine Y_ok _ _ _ _ _ (identR_eq ?_)
  have := allB_lt h (i - b) (by omega)
  rw [show b + (i - b) = i by omega] at this
  exact this
theorem ident_ok (i : Nat) (hi : i < 200) : Ident (nmB i) := by
  rcases Nat.lt_or_ge i 25 with h | h
  · exact ident_at ident0 (by omega) h
  rcases Nat.lt_or_ge i 50 with h2 | h2
  · exact ident_at ident25 h (by omega)
  rcases Nat.lt_or_ge i 75 with h3 | h3
  · exact ident_at ident50 h2 (by omega)
  rcases Nat.lt_or_ge i 100 with h4 | h4
  · exact ident_at ident75 h3 (by omega)
  rcases Nat.lt_or_ge i 125 with h5 | h5
  · exact ident_at ident100 h4 (by omega)
  rcases Nat.lt_or_ge i 150 with h6 | h6
  · exact ident_at ident125 h5 (by omega)
  rcases Nat.lt_or_ge i 175 with h7 | h7
  · exact ident_at ident150 h6 (by omega)
  · exact ident_at ident175 h7 (by omega)
theorem identM : Ident nmM := Y_ok _ _ _ _ _ (by kernel_rfl)
theorem more_run : allB (fun i => !eqB (102 :: digs i) [102]) 200 = true := by kernel_rfl
theorem msU_more : Other nmM (msU 200) := by
  intro d hd
  simp only [msU, List.mem_map, List.mem_range] at hd
  obtain ⟨i, hi, rfl⟩ := hd
  refine ⟨_, _, _, rfl, ?_⟩
  have := allB_lt more_run i hi
  simpa [nmB, nmM] using this
end Go.Proofs.YteanmfacikjjhaaGreatDoor
namespace Go.Proofs.YteanmfacikjjhaaGreatDoor
open Go.Tp
set_option maxRecDepth 100000
set_option maxHeartbeats 4000000
theorem c4 : ACalls Tryz.prog xglobs 4 [.dat nl] [] 0 (XQ ⟨.ptr (.out 4) 0, HT (.dat nl) 1, 5⟩) := Y_ok _ _ _ _ _ (by kernel_rfl)
theorem c10 : ACalls Tryz.prog xglobs 10 [.ptr (.out 4) 0] (HT (.dat nl) 1) 5 (XQ ⟨.dat nl, HT (.dat nl) 1, 5⟩) := Y_ok _ _ _ _ _ (by kernel_rfl)
def editK (n : Int) : Dat := .agg [i64 n, s0, i64 0, i64 0, s0, i64 0, nl, .flat (.bool false), nl, s0, i64 0, s0, i64 0, nl, i64 0, i64 0, i64 0, nl, nl, s0]
theorem app25 {es ds : List Dat} (h1 : sizedB 20 es = true) (h2 : sizedB 20 ds = true) (hl : es.length + ds.length ≤ 1000) (hb : byteOk (env Prims.fast) 25 (es ++ ds) = true) :
    aAppend (env Prims.fast) false 25 [.own es, .dat (.slice ds)] none = some ⟨.own (es ++ ds), .keep⟩ := by
  refine ans_app (t := 25) (i := ti25) (k := 19) ti25_eq rfl ti25_size h2 h1 (by kernel_rfl) ?_ ?_ hb rfl
  · have := ble_to ti25_bytes
    calc (es.length + ds.length) * ti25.bytes ≤ 1000 * 1000 := Nat.mul_le_mul hl this
      _ ≤ 140737488355328 := by decide
  · simp [lim]; omega
theorem law_of (n : Int) {es : List Dat} {m : Dat} {ms : List Dat} (h3 : ACode Tryz.prog xglobs (.loop rl0) (fun e s => e = .exit 0 ∧ s = (st3x n es).toA 92) ((st3 n 0).toA 92)) (hsz : sizedB 20 es = true) (hby : byteOk (env Prims.fast) 25 (es ++ [moreD]) = true)
    (hby0 : byteOk (env Prims.fast) 25 es = true) (hlen : es.length = 200)
    (hfull : ACalls Tryz.prog xglobs 9 [.ptr (.out 4) 0, .dat (.slice (es ++ [moreD]))] (HT (.dat nl) 1) 5 (XQ ⟨iv 8, HT (.dat nl) 1, 5⟩))
    (hall : ACalls Tryz.prog xglobs 9 [.ptr (.out 4) 0, .dat (.slice es)] (HT (.dat nl) 1) 5 (XQ ⟨iv 0, HT7 (.dat (.slice (m :: ms))) 2, 9⟩))
    (hmore : ACalls Tryz.prog xglobs 9 [.ptr (.out 4) 0, .dat (.slice [moreD])] (HT (.dat (.slice (m :: ms))) 2) 5 (XQ ⟨iv 8, HT (.dat (.slice (m :: ms))) 2, 5⟩))
    (hM : ∀ d ∈ m :: ms, IsM d) (hL : (m :: ms).length < 1000) : ACalls Tryz.prog xglobs 3 [iv n] [] 0 (XQ ⟨bv true, [], 0⟩) := by
  refine call_of [] [36, 39] (x := XFn.of Tryz.f3 yord3 ylive3) (by kernel_rfl) ?_
  refine ok_call c4 [] (by kernel_rfl) (by kernel_rfl) (by kernel_rfl) (by kernel_rfl) (by kernel_rfl) (fun _ => ?_)
  refine ok_np check_ok (by kernel_rfl) (by kernel_rfl) rfl (fun _ => ?_)
  refine ok_loop (n := 92) (c := rl0) (f := st3 n 0) (by kernel_rfl) (by kernel_rfl) h3 ?_
  rintro e s ⟨rfl, rfl⟩
  refine ⟨_, rfl, ?_⟩
  refine ok_np named_ok (by kernel_rfl) (by kernel_rfl) rfl (fun _ => ?_)
  refine ok_np (add_ok 0) (by kernel_rfl) (by kernel_rfl) rfl (fun _ => ?_)
  refine ok_out (app25 (es := []) (ds := es) (by kernel_rfl) hsz (by simp; omega) hby0) (by kernel_rfl) ?_
  refine ok_out (app25 (es := es) (ds := [moreD]) hsz (by kernel_rfl) (by simp; omega) hby) (by kernel_rfl) ?_
  refine ok_call hfull [0, 1, 2, 3, 4] (by kernel_rfl) (by kernel_rfl) (by kernel_rfl) (by kernel_rfl) (by kernel_rfl) (fun _ => ?_)
  refine ok_call c10 [0, 1, 2, 3, 4] (by kernel_rfl) (by kernel_rfl) (by kernel_rfl) (by kernel_rfl) (by kernel_rfl) (fun _ => ?_)
  refine ok_call hall [0, 1, 2, 3, 4] (by kernel_rfl) (by kernel_rfl) (by kernel_rfl) (by kernel_rfl) (by kernel_rfl) (fun _ => ?_)
  refine ok_call hmore [0, 1, 2, 7, 4] (by kernel_rfl) (by kernel_rfl) (by kernel_rfl) (by kernel_rfl) (by kernel_rfl) (fun _ => ?_)
  refine ok_loop (n := 92) (c := rl1) (f := stW0 n (m :: ms)) (by kernel_rfl) (by kernel_rfl) (lW n hM hL) ?_
  rintro e s ⟨rfl, rfl⟩
  refine ⟨_, rfl, ?_⟩
  refine ok_call (c9max nl (m :: ms) (w := 1000) (by omega)) [0, 1, 2, 9, 4] (by kernel_rfl) (by kernel_rfl) (by kernel_rfl) (by kernel_rfl) (by kernel_rfl) (fun _ => ?_)
  refine ok_call (c9max (.slice [editK n]) (m :: ms) (w := 1000) (by omega)) [0, 1, 2, 9, 4] (by kernel_rfl) (by kernel_rfl) (by kernel_rfl) (by kernel_rfl) (by kernel_rfl) (fun _ => ?_)
  refine ok_call (c11 (m :: ms) 1000) [0, 1, 2, 9, 4] (by kernel_rfl) (by kernel_rfl) (by kernel_rfl) (by kernel_rfl) (by kernel_rfl) (fun _ => ?_)
  exact ok_fin (by kernel_rfl) rfl
theorem esU_get {k i : Nat} (h : i < k) : (esU k)[i]? = some (edD i) := by simp [esU, h]
theorem esU_bytes0 (k : Nat) : byteOk (env Prims.fast) 25 (esU k) = true := by
  cases k with
  | zero => rfl
  | succ k => rw [esU, List.range_succ_eq_map]; rfl
theorem law_ok (n : Int) : ACalls Tryz.prog xglobs 3 [iv n] [] 0 (XQ ⟨bv true, [], 0⟩) := by
  obtain ⟨m, ms, hms⟩ : ∃ m ms, msU 200 = m :: ms := by
    cases h : msU 200 with
    | nil => have := msU_length 200; rw [h] at this; simp at this
    | cons m ms => exact ⟨m, ms, rfl⟩
  have hM : ∀ d ∈ m :: ms, IsM d := by
    intro d hd
    rw [← hms] at hd
    simp only [msU, List.mem_map] at hd
    obtain ⟨i, _, rfl⟩ := hd
    exact ⟨_, _, _, rfl⟩
  have hL : (m :: ms).length = 200 := by rw [← hms, msU_length]
  have hall := c9all (es := esU 200) (esU_length _) ident_ok (fun i hi => esU_get hi)
  have hfull := c9full (es := esU 200 ++ [moreD]) (by simp [esU_length]) ident_ok (fun i hi => by rw [List.getElem?_append_left (by rw [esU_length]; exact hi)]; exact esU_get hi)
    (by rw [List.getElem?_append_right (by rw [esU_length]; exact Nat.le_refl _), esU_length]; rfl) identM msU_more
  have hmore := c9more (m := m) (ms := ms) hM hL identM (by rw [← hms]; exact msU_more)
  rw [hms] at hall
  exact law_of n (l3_ok n digit_ok) (esU_sized _) (esU_bytes _ _) (esU_bytes0 _) (esU_length _) hfull hall hmore hM (by omega)
end Go.Proofs.YteanmfacikjjhaaGreatDoor
