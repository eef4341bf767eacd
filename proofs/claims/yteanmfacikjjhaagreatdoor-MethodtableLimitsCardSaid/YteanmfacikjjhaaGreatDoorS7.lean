/- MethodtableLimits: the law's loops. -/
import Derived.Test.YteanmfacikjjhaaGreatDoorMemo
import Derived.Test.YteanmfacikjjhaaGreatDoorTpSeat
namespace Go.Proofs.YteanmfacikjjhaaGreatDoor
open Go.Tp
set_option maxRecDepth 100000
set_option maxHeartbeats 1000000

theorem call_of (ls bs : List Nat) {g : FuncId} {x : XFn} (hx : ytab.find g = some x) {args : List AVal} {heap : Heap} {next : Nat} {r : XRes} (h : (qfun (inL ls) (inL bs) (env Prims.fast) xglobs ymoves ycaps x g args heap next).Ok Tryz.prog xglobs (fun y => y = r)) :
    ACalls Tryz.prog xglobs g args heap next (XQ r) := acalls_eq (qfun_ok envF ytab_ok hx (fun _ _ => h))
theorem run_of (ls bs : List Nat) {H : Hints} {n : Nat} {live : Nat → Nat} {c : Code} (hc : chkAll H c = true) {f : FState} {T : Exit → AState → Prop}
    (h : (qcode (inL ls) (inL bs) (env Prims.fast) xglobs H n live c f (fun r => .fin r)).Ok Tryz.prog xglobs (fun r => T r.1 (r.2.toA n))) : ACode Tryz.prog xglobs c T (f.toA n) := qcode_run envF live hc h

def i64 (n : Int) : Dat := .flat (.int .i64 n)
def str (b : ByteArray) : Dat := .flat (.string b)
def s0 : Dat := .flat (.string ⟨⟨[]⟩⟩)
def nl : Dat := .flat (.slice none 0 0)
def tyInt : Dat := .agg [i64 2, str ⟨⟨[73, 110, 116]⟩⟩, i64 0, nl]
def sigC : List Dat := [i64 3, s0, i64 0, .slice [tyInt]]
def constI (n : Int) : Dat := .agg [i64 1, i64 1, i64 0, i64 0, i64 0, s0, nl, i64 0, s0, i64 0, nl, i64 1, i64 n, s0, nl]
def retI : Dat := .agg [i64 19, i64 0, i64 1, i64 0, i64 0, s0, nl, i64 0, s0, i64 0, nl, i64 0, i64 0, s0, nl]
def methD (id : Int) (nm : ByteArray) (n : Int) : Dat := .agg [i64 id, str nm, i64 3, s0, i64 0, .slice [tyInt], i64 1, i64 1, i64 2, .slice [constI n, retI], nl, s0, i64 2, i64 0]
def fv92 (nm : ByteArray) : AVal := .fn (.func 92) [] [.ref [str nm], .undef, .ref sigC]

/-- A method of another name. -/
theorem c92 {nm nm2 : ByteArray} {id n : Int} (h : eqB nm2.data.toList nm.data.toList = false) :
    ACalls Tryz.prog xglobs 92 [.dat (methD id nm2 n), .ref [str nm], .undef, .ref sigC] [] 0 (XQ ⟨bv false, [], 0⟩) :=
  call_of [9] [] (x := XFn.of Tryz.f92 yord92 ylive92) (by kernel_rfl) (ok_bool h (by kernel_rfl) (ok_fin (by kernel_rfl) rfl))

noncomputable def H91 : Hints := ⟨ymoves, yord91, ycaps, rowsOf ycaps 91⟩
noncomputable def ti43 : TI := match Go.Tp.elemOf (env Prims.fast) 43 with | some t => t | none => default
theorem ti43_eq : Go.Tp.elemOf (env Prims.fast) 43 = some ti43 := by kernel_rfl
theorem ti43_size : ti43.size = 14 := by kernel_rfl
def st91 (nm : ByteArray) (es : List Dat) (i : Int) : FState := ⟨[(8, iv i), (7, iv (Int.ofNat es.length)), (0, .dat (.slice es)), (1, fv92 nm)], [], [], 0⟩
def st91x (nm : ByteArray) (es : List Dat) : FState := ⟨[(9, bv false), (8, iv (Int.ofNat es.length)), (7, iv (Int.ofNat es.length)), (0, .dat (.slice es)), (1, fv92 nm)], [], [], 0⟩
/-- Methods of other names. -/
def Other (nm : ByteArray) (es : List Dat) : Prop := ∀ d ∈ es, ∃ id nm2 n, d = methD id nm2 n ∧ eqB nm2.data.toList nm.data.toList = false
theorem c91 {nm : ByteArray} {es : List Dat} (ho : Other nm es) (hl : es.length < 1000) : ACalls Tryz.prog xglobs 91 [.dat (.slice es), fv92 nm] [] 0 (XQ ⟨iv (-1), [], 0⟩) := by
  refine call_of [] [] (x := XFn.of Tryz.f91 yord91 ylive91) (by kernel_rfl) ?_
  refine ok_loop (n := 19) (c := roundOf Tryz.f91 0) (f := st91 nm es (Int.ofNat 0)) (L := fun e s => e = .exit 0 ∧ s = (st91x nm es).toA 19) (by kernel_rfl) (by kernel_rfl) ?_ ?_
  · refine loop_count (St := fun i => (st91 nm es (Int.ofNat i)).toA 19) es.length ?_ ?_ (i := 0) (Nat.zero_le _)
    · intro i hi
      obtain ⟨id, nm2, n, hd, hne⟩ := ho es[i] (List.getElem_mem hi)
      have hg : es[i]? = some (methD id nm2 n) := by rw [List.getElem?_eq_getElem hi, hd]
      refine run_of [9] [14] (H := H91) (live := ylive91) (by kernel_rfl) ?_
      refine ok_bool (b := true) (ltF_yes hi) (by kernel_rfl) ?_
      refine ok_out (ans_idx ti43_eq rfl hg (by rw [ti43_size]; rfl) (by rw [ti43_size]; decide)) (by kernel_rfl) ?_
      refine ok_np (c92 (id := id) (n := n) hne) (by kernel_rfl) (by kernel_rfl) rfl (fun _ => ?_)
      refine ok_fin (a := (.normal, st91 nm es (wrapF .i64 (Int.ofNat i + 1)))) (by kernel_rfl) ?_
      rw [wrap_of (by omega)]
      rfl
    · refine run_of [9] [14] (H := H91) (live := ylive91) (by kernel_rfl) ?_
      refine ok_bool (b := false) (ltF_no (i := es.length) (L := es.length) (by omega)) (by kernel_rfl) ?_
      exact ok_fin (a := (.exit 0, st91x nm es)) (by kernel_rfl) ⟨rfl, rfl⟩
  · rintro e s ⟨rfl, rfl⟩
    exact ⟨_, rfl, ok_fin (by kernel_rfl) rfl⟩
end Go.Proofs.YteanmfacikjjhaaGreatDoor
namespace Go.Proofs.YteanmfacikjjhaaGreatDoor
open Go.Tp
set_option maxRecDepth 100000
set_option maxHeartbeats 4000000

def declD (b : List UInt8) : Dat := .agg [str ⟨⟨b⟩⟩, i64 0, i64 0, s0, i64 0, nl, .flat (.bool true), nl]
def bInt : List UInt8 := [73, 110, 116]
def bBool : List UInt8 := [66, 111, 111, 108]
def bString : List UInt8 := [83, 116, 114, 105, 110, 103]
def bNil : List UInt8 := [78, 105, 108]
def declsD : List Dat := [declD bInt, declD bBool, declD bString, declD bNil]
def idxM : List (Value × Dat) := [(.string ⟨⟨bInt⟩⟩, i64 0), (.string ⟨⟨bBool⟩⟩, i64 1), (.string ⟨⟨bString⟩⟩, i64 2), (.string ⟨⟨bNil⟩⟩, i64 3)]
/-- A hierarchy. -/
def HH : Heap := [(.out 1, .cells [.dat (.slice declsD), .map (.out 0)]), (.out 0, .map idxM)]
/-- A change in progress. -/
def HC (mc : AVal) (w : Int) : Heap := [(.out 4, .cells [.ptr (.out 1) 0, mc, .map (.out 2), iv w, .map (.out 3)]), (.out 3, .map []), (.out 2, .map []), (.out 1, .cells [.dat (.slice declsD), .map (.out 0)]), (.out 0, .map idxM)]
def codeC (n : Int) : List Dat := [i64 1, i64 2, .slice [constI n, retI], nl]
def editL (nm : ByteArray) (n : Int) : List Dat := [i64 2, s0, i64 0, i64 0, s0, i64 0, nl, .flat (.bool false), nl, str nm, i64 3, s0, i64 0, .slice [tyInt], i64 1, i64 1, i64 2, .slice [constI n, retI], nl, s0]

theorem valid_run (n : Int) : Y 54 [.dat (.agg (codeC n))] [] 0 = some ⟨iv 0, [], 0⟩ := by kernel_rfl
theorem valid_ok (n : Int) : ACalls Tryz.prog xglobs 54 [.dat (.agg (codeC n))] [] 0 (XQ ⟨iv 0, [], 0⟩) := Y_ok _ _ _ _ _ (valid_run n)
theorem norm_run : Y 55 [.ptr (.out 1) 0, .dat (.agg sigC)] HH 2 = some ⟨.tup [.dat (.agg sigC), iv 0], HH, 2⟩ := by kernel_rfl
theorem norm_ok : ACalls Tryz.prog xglobs 55 [.ptr (.out 1) 0, .dat (.agg sigC)] HH 2 (XQ ⟨.tup [.dat (.agg sigC), iv 0], HH, 2⟩) := Y_ok _ _ _ _ _ norm_run
theorem sig_run : Y 56 [.dat (.agg sigC), iv 1] [] 0 = some ⟨bv true, [], 0⟩ := by kernel_rfl
theorem sig_ok : ACalls Tryz.prog xglobs 56 [.dat (.agg sigC), iv 1] [] 0 (XQ ⟨bv true, [], 0⟩) := Y_ok _ _ _ _ _ sig_run
theorem nc_run (n : Int) : Y 57 [.ptr (.out 1) 0, .dat (.agg (codeC n))] HH 2 = some ⟨.tup [.dat (.agg (codeC n)), iv 0], HH, 2⟩ := by kernel_rfl
theorem nc_ok (n : Int) : ACalls Tryz.prog xglobs 57 [.ptr (.out 1) 0, .dat (.agg (codeC n))] HH 2 (XQ ⟨.tup [.dat (.agg (codeC n)), iv 0], HH, 2⟩) := Y_ok _ _ _ _ _ (nc_run n)

theorem c58 {nm : ByteArray} {ms : List Dat} (w : Int) (ho : Other nm ms) (hl : ms.length < 1000) : ACalls Tryz.prog xglobs 58 [.ptr (.out 4) 0, .dat (str nm), .dat (.agg sigC)] (HC (.own ms) w) 5 (XQ ⟨iv (-1), HC (.own ms) w, 5⟩) := by
  refine call_of [] [] (x := XFn.of Tryz.f58 yord58 ylive58) (by kernel_rfl) ?_
  refine ok_np (c91 ho hl) (by kernel_rfl) (by kernel_rfl) rfl (fun _ => ?_)
  exact ok_fin (by kernel_rfl) rfl
theorem c58n (nm : ByteArray) (w : Int) : ACalls Tryz.prog xglobs 58 [.ptr (.out 4) 0, .dat (str nm), .dat (.agg sigC)] (HC (.dat nl) w) 5 (XQ ⟨iv (-1), HC (.dat nl) w, 5⟩) :=
  Y_ok _ _ _ _ _ (by kernel_rfl)
end Go.Proofs.YteanmfacikjjhaaGreatDoor
namespace Go.Proofs.YteanmfacikjjhaaGreatDoor
open Go.Tp
set_option maxRecDepth 100000
set_option maxHeartbeats 4000000

theorem other_sized {nm : ByteArray} {ms : List Dat} (ho : Other nm ms) : sizedB 14 ms = true :=
  sizedB_of fun d hd => by obtain ⟨id, nm2, n, rfl, _⟩ := ho d hd; rfl
theorem other_bytes {nm : ByteArray} {ms : List Dat} (ho : Other nm ms) (a : Int) (b : ByteArray) (c : Int) : byteOk (env Prims.fast) 43 (ms ++ [methD a b c]) = true := by
  cases ms with
  | nil => rfl
  | cons d r => obtain ⟨id, nm2, n, rfl, _⟩ := ho d (by simp); rfl
/-- A word that may be a function's name. -/
def Ident (nm : ByteArray) : Prop := ACalls Tryz.prog xglobs 53 [.dat (str nm)] [] 0 (XQ ⟨bv true, [], 0⟩)
def argsE (nm : ByteArray) (n : Int) : List AVal := [.ptr (.out 4) 0, .dat (.agg (editL nm n)), .dat s0]

theorem c33 {nm : ByteArray} {n : Int} {ms : List Dat} (hid : Ident nm) (ho : Other nm ms) (hl : ms.length < 200) :
    ACalls Tryz.prog xglobs 33 (argsE nm n) (HC (.own ms) 2) 5 (XQ ⟨iv 0, HC (.own (ms ++ [methD (Int.ofNat (ms.length + 1)) nm n])) 2, 5⟩) := by
  rw [← wrap_of (i := ms.length) (by omega)]
  refine call_of [104] [146] (x := XFn.of Tryz.f33 yord33 ylive33) (by kernel_rfl) ?_
  refine ok_np hid (by kernel_rfl) (by kernel_rfl) rfl (fun _ => ?_)
  refine ok_np (valid_ok n) (by kernel_rfl) (by kernel_rfl) rfl (fun _ => ?_)
  refine ok_call norm_ok [0, 1] (by kernel_rfl) (by kernel_rfl) (by kernel_rfl) (by kernel_rfl) (by kernel_rfl) (fun _ => ?_)
  refine ok_np sig_ok (by kernel_rfl) (by kernel_rfl) rfl (fun _ => ?_)
  refine ok_call (nc_ok n) [0, 1] (by kernel_rfl) (by kernel_rfl) (by kernel_rfl) (by kernel_rfl) (by kernel_rfl) (fun _ => ?_)
  refine ok_call (c58 2 ho (by omega)) [0, 1, 2, 3, 4] (by kernel_rfl) (by kernel_rfl) (by kernel_rfl) (by kernel_rfl) (by kernel_rfl) (fun _ => ?_)
  refine ok_bool (b := false) (c := !ltF (Int.ofNat ms.length) (Int.ofNat 200)) (by rw [ltF_yes hl]; rfl) (by kernel_rfl) ?_
  refine ok_out (ans_app (t := 43) (i := ti43) (es := ms) (ds := [methD (wrapF .i64 (Int.ofNat ms.length + 1)) nm n]) (ob := none) (take := false) (k := 13) ti43_eq rfl ti43_size (by kernel_rfl) (other_sized ho) (by kernel_rfl) ?_ ?_ (other_bytes ho _ _ _) rfl) (by kernel_rfl) ?_
  · have : ti43.bytes = 184 := by kernel_rfl
    rw [this]; simp; omega
  · simp [lim]; omega
  · exact ok_fin (by kernel_rfl) rfl
theorem c33n {nm : ByteArray} {n : Int} (hid : Ident nm) :
    ACalls Tryz.prog xglobs 33 (argsE nm n) (HC (.dat nl) 2) 5 (XQ ⟨iv 0, HC (.own [methD 1 nm n]) 2, 5⟩) := by
  refine call_of [] [] (x := XFn.of Tryz.f33 yord33 ylive33) (by kernel_rfl) ?_
  refine ok_np hid (by kernel_rfl) (by kernel_rfl) rfl (fun _ => ?_)
  refine ok_np (valid_ok n) (by kernel_rfl) (by kernel_rfl) rfl (fun _ => ?_)
  refine ok_call norm_ok [0, 1] (by kernel_rfl) (by kernel_rfl) (by kernel_rfl) (by kernel_rfl) (by kernel_rfl) (fun _ => ?_)
  refine ok_np sig_ok (by kernel_rfl) (by kernel_rfl) rfl (fun _ => ?_)
  refine ok_call (nc_ok n) [0, 1] (by kernel_rfl) (by kernel_rfl) (by kernel_rfl) (by kernel_rfl) (by kernel_rfl) (fun _ => ?_)
  refine ok_call (c58n nm 2) [0, 1, 2, 3, 4] (by kernel_rfl) (by kernel_rfl) (by kernel_rfl) (by kernel_rfl) (by kernel_rfl) (fun _ => ?_)
  exact ok_fin (by kernel_rfl) rfl
theorem c33full {nm : ByteArray} {n : Int} {ms : List Dat} (w : Int) (hid : Ident nm) (ho : Other nm ms) (hl : ms.length = 200) :
    ACalls Tryz.prog xglobs 33 (argsE nm n) (HC (.own ms) w) 5 (XQ ⟨iv 8, HC (.own ms) w, 5⟩) := by
  refine call_of [104] [146] (x := XFn.of Tryz.f33 yord33 ylive33) (by kernel_rfl) ?_
  refine ok_np hid (by kernel_rfl) (by kernel_rfl) rfl (fun _ => ?_)
  refine ok_np (valid_ok n) (by kernel_rfl) (by kernel_rfl) rfl (fun _ => ?_)
  refine ok_call norm_ok [0, 1] (by kernel_rfl) (by kernel_rfl) (by kernel_rfl) (by kernel_rfl) (by kernel_rfl) (fun _ => ?_)
  refine ok_np sig_ok (by kernel_rfl) (by kernel_rfl) rfl (fun _ => ?_)
  refine ok_call (nc_ok n) [0, 1] (by kernel_rfl) (by kernel_rfl) (by kernel_rfl) (by kernel_rfl) (by kernel_rfl) (fun _ => ?_)
  refine ok_call (c58 w ho (by omega)) [0, 1, 2, 3, 4] (by kernel_rfl) (by kernel_rfl) (by kernel_rfl) (by kernel_rfl) (by kernel_rfl) (fun _ => ?_)
  refine ok_bool (b := true) (c := !ltF (Int.ofNat ms.length) (Int.ofNat 200)) (by rw [ltF_no (by omega)]; rfl) (by kernel_rfl) ?_
  exact ok_fin (by kernel_rfl) rfl

/-! ### One edit -/
theorem c19_of {nm : ByteArray} {n : Int} {mc mc' : AVal} {w k : Int} (hmc : (mc = .dat nl ∨ ∃ l, mc = .own l) ∧ (mc' = .dat nl ∨ ∃ l, mc' = .own l)) (h : ACalls Tryz.prog xglobs 33 (argsE nm n) (HC mc w) 5 (XQ ⟨iv k, HC mc' w, 5⟩)) :
    ACalls Tryz.prog xglobs 19 [.ptr (.out 4) 0, .dat (.agg (editL nm n))] (HC mc w) 5 (XQ ⟨iv k, HC mc' w, 5⟩) := by
  obtain ⟨h1, h2⟩ := hmc
  rcases h1 with rfl | ⟨l, rfl⟩ <;> rcases h2 with rfl | ⟨l', rfl⟩ <;>
  · refine call_of [] [] (x := XFn.of Tryz.f19 yord19 ylive19) (by kernel_rfl) ?_
    refine ok_call h [0, 1, 2, 3, 4] (by kernel_rfl) (by kernel_rfl) (by kernel_rfl) (by kernel_rfl) (by kernel_rfl) (fun _ => ?_)
    exact ok_fin (by kernel_rfl) rfl
end Go.Proofs.YteanmfacikjjhaaGreatDoor
namespace Go.Proofs.YteanmfacikjjhaaGreatDoor
open Go.Tp
set_option maxRecDepth 100000
set_option maxHeartbeats 4000000

/-- A method by its shape. -/
def IsM (d : Dat) : Prop := ∃ id nm n, d = methD id nm n
def hierO : AObj := .cells [.own declsD, .map (.out 0)]
theorem isM_sized {ms : List Dat} (h : ∀ d ∈ ms, IsM d) : sizedB 14 ms = true :=
  sizedB_of fun d hd => by obtain ⟨id, nm2, n, rfl⟩ := h d hd; rfl
theorem isM_bytes {ms : List Dat} (h : ∀ d ∈ ms, IsM d) : byteOk (env Prims.fast) 43 ms = true := by
  cases ms with
  | nil => rfl
  | cons d r => obtain ⟨id, nm2, n, rfl⟩ := h d (by simp); rfl
theorem c30 {m : Dat} {ms : List Dat} (h : ∀ d ∈ m :: ms, IsM d) (hl : (m :: ms).length < 1000) : ACalls Tryz.prog xglobs 30 [.dat (.slice (m :: ms))] [] 0 (XQ ⟨.own (m :: ms), [], 0⟩) := by
  refine call_of [] [7] (x := XFn.of Tryz.f30 yord30 ylive30) (by kernel_rfl) ?_
  refine ok_out (ans_app (t := 43) (i := ti43) (es := []) (ds := m :: ms) (ob := none) (take := false) (k := 13) ti43_eq rfl ti43_size (isM_sized h) (by kernel_rfl) (by kernel_rfl) ?_ ?_ (isM_bytes h) rfl) (by kernel_rfl) ?_
  · have : ti43.bytes = 184 := by kernel_rfl
    rw [this]; simp at hl ⊢; omega
  · simp [lim] at hl ⊢; omega
  · exact ok_fin (by kernel_rfl) rfl
theorem c31 : ACalls Tryz.prog xglobs 31 [.map (.out 0)] [(.out 0, .map [])] 1 (XQ ⟨.map (.out 1), [(.out 1, .map []), (.out 0, .map [])], 2⟩) := libX_ok _ _ _ _ _ (by kernel_rfl)
theorem c29 : ACalls Tryz.prog xglobs 29 [.ptr (.out 1) 0] [(.out 1, hierO), (.out 0, .map idxM)] 2
    (XQ ⟨.ptr (.out 3) 0, [(.out 3, .cells [.dat (.slice declsD), .map (.out 2)]), (.out 2, .map idxM), (.out 1, hierO), (.out 0, .map idxM)], 4⟩) := Y_ok _ _ _ _ _ (by kernel_rfl)
def H18 : Heap := [(.out 2, .map []), (.out 1, hierO), (.out 0, .map idxM)]
def H18' : Heap := [(.out 5, .map []), (.out 4, .cells [.dat (.slice declsD), .map (.out 3)]), (.out 3, .map idxM), (.out 2, .map []), (.out 1, hierO), (.out 0, .map idxM)]
def H18x : Heap := [(.out 4, .cells [.dat (.slice declsD), .map (.out 3)]), (.out 3, .map idxM), (.out 2, .map []), (.out 1, hierO), (.out 0, .map idxM)]
theorem c18 {m : Dat} {ms : List Dat} (h : ∀ d ∈ m :: ms, IsM d) (hl : (m :: ms).length < 1000) : ACalls Tryz.prog xglobs 18 [.agg [.ptr (.out 1) 0, .dat (.slice (m :: ms)), .map (.out 2)]] H18 3
    (XQ ⟨.agg [.ptr (.out 4) 0, .dat (.slice (m :: ms)), .map (.out 5)], H18', 6⟩) := by
  refine call_of [] [] (x := XFn.of Tryz.f18 yord18 ylive18) (by kernel_rfl) ?_
  refine ok_call c29 [0, 1] (by kernel_rfl) (by kernel_rfl) (by kernel_rfl) (by kernel_rfl) (by kernel_rfl) (fun _ => ?_)
  refine ok_np (c30 h hl) (by kernel_rfl) (by kernel_rfl) rfl (fun _ => ?_)
  refine ok_stay (stays_refl H18x) (by kernel_rfl) ?_
  refine ok_call c31 [2] (by kernel_rfl) (by kernel_rfl) (by kernel_rfl) (by kernel_rfl) (by kernel_rfl) (fun _ => ?_)
  exact ok_fin (by kernel_rfl) rfl
theorem c18n : ACalls Tryz.prog xglobs 18 [.agg [.ptr (.out 1) 0, .dat nl, .map (.out 2)]] H18 3 (XQ ⟨.agg [.ptr (.out 4) 0, .dat nl, .map (.out 5)], H18', 6⟩) := Y_ok _ _ _ _ _ (by kernel_rfl)
end Go.Proofs.YteanmfacikjjhaaGreatDoor
namespace Go.Proofs.YteanmfacikjjhaaGreatDoor
open Go.Tp
set_option maxRecDepth 100000
set_option maxHeartbeats 4000000
/-- A table. -/
def tabO (mc : AVal) (lm : Nat) (w : Int) : AObj := .cells [.ptr (.out 1) 0, mc, .map (.out lm), iv w, .map (.out 2)]
def HT (mc : AVal) (w : Int) : Heap := [(.out 4, tabO mc 3 w), (.out 3, .map []), (.out 2, .map []), (.out 1, hierO), (.out 0, .map idxM)]
/-- A copy of its state beside. -/
def HT1 (mc : AVal) (w : Int) : Heap := [(.out 7, .map []), (.out 6, .cells [.dat (.slice declsD), .map (.out 5)]), (.out 5, .map idxM), (.out 4, tabO mc 3 w), (.out 3, .map []), (.out 2, .map []), (.out 1, hierO), (.out 0, .map idxM)]

/-! ### Names -/
def digs (i : Nat) : List UInt8 :=
  match Nat.blt i 10 with
  | true => [UInt8.ofNat (48 + i)]
  | false => (match Nat.blt i 100 with
    | true => [UInt8.ofNat (48 + i / 10), UInt8.ofNat (48 + i % 10)]
    | false => [UInt8.ofNat (48 + i / 100), UInt8.ofNat (48 + i / 10 % 10), UInt8.ofNat (48 + i % 10)])
def nmB (i : Nat) : ByteArray := ⟨⟨102 :: digs i⟩⟩
def allB (p : Nat → Bool) : Nat → Bool
  | 0 => true
  | k + 1 => p k && allB p k
theorem allB_lt {p : Nat → Bool} : ∀ {k : Nat}, allB p k = true → ∀ i, i < k → p i = true
  | 0, _, i, hi => by omega
  | k + 1, h, i, hi => by
    simp only [allB, Bool.and_eq_true] at h
    rcases Nat.lt_or_ge i k with h1 | h1
    · exact allB_lt h.2 i h1
    · have : i = k := by omega
      subst this; exact h.1
theorem names_run : allB (fun k => allB (fun i => !eqB (102 :: digs i) (102 :: digs k)) k) 200 = true := by kernel_rfl
theorem names_ne {i k : Nat} (h : i < k) (hk : k < 200) : eqB (nmB i).data.toList (nmB k).data.toList = false := by
  have := allB_lt (allB_lt names_run k hk) i h
  simpa [nmB] using this
def identR : Option XRes → Bool
  | some ⟨.dat (.flat (.bool true)), [], 0⟩ => true
  | _ => false
theorem identR_eq {r : Option XRes} (h : identR r = true) : r = some ⟨bv true, [], 0⟩ := by
  unfold identR at h
  split at h
  · rfl
  · simp at h

/-! ### Edits and methods -/
def edD (i : Nat) : Dat := .agg (editL (nmB i) (Int.ofNat i))
def mtD (i : Nat) : Dat := methD (Int.ofNat (i + 1)) (nmB i) (Int.ofNat i)
def msU (k : Nat) : List Dat := (List.range k).map mtD
theorem msU_succ (k : Nat) : msU (k + 1) = msU k ++ [mtD k] := by simp [msU, List.range_succ]
theorem msU_length (k : Nat) : (msU k).length = k := by simp [msU]
theorem msU_other {k : Nat} (hk : k < 200) : Other (nmB k) (msU k) := by
  intro d hd
  simp only [msU, List.mem_map, List.mem_range] at hd
  obtain ⟨i, hi, rfl⟩ := hd
  exact ⟨_, _, _, rfl, names_ne hi hk⟩

noncomputable def H9 : Hints := ⟨ymoves, yord9, ycaps, rowsOf ycaps 9⟩
noncomputable def ti25 : TI := match Go.Tp.elemOf (env Prims.fast) 25 with | some t => t | none => default
theorem ti25_eq : Go.Tp.elemOf (env Prims.fast) 25 = some ti25 := by kernel_rfl
theorem ti25_size : ti25.size = 20 := by kernel_rfl
def cO (mc : AVal) : AObj := .cells [.ptr (.out 6) 0, mc, .map (.out 7), iv 2, .map (.out 2)]
def lo7 (i : Nat) : Heap := [(.loc 7, .cells ((editL (nmB i) (Int.ofNat i)).map AVal.dat))]
def st9 (es : List Dat) : Nat → FState
  | 0 => ⟨[(34, iv (Int.ofNat 0)), (33, iv (Int.ofNat es.length)), (32, .dat (.slice es)), (5, .ptr (.loc 31) 0), (0, .ptr (.out 4) 0)], [(.loc 31, cO (.dat nl))], HT1 (.dat nl) 1, 8⟩
  | i + 1 => ⟨[(34, iv (Int.ofNat (i + 1))), (33, iv (Int.ofNat es.length)), (32, .dat (.slice es)), (5, .ptr (.out 8) 0), (0, .ptr (.out 4) 0)], lo7 i, (.out 8, cO (.own (msU (i + 1)))) :: HT1 (.dat nl) 1, 9⟩
def st9w (es : List Dat) (i : Nat) (k : Int) (ms : List Dat) : FState := ⟨[(34, iv k), (33, iv (Int.ofNat es.length)), (32, .dat (.slice es)), (5, .ptr (.out 8) 0), (0, .ptr (.out 4) 0)], lo7 i, (.out 8, cO (.own ms)) :: HT1 (.dat nl) 1, 9⟩

theorem r9_0 {es : List Dat} {T : Exit → AState → Prop} (hid : Ident (nmB 0)) (hl : 0 < es.length) (h : es[0]? = some (edD 0)) : ACode Tryz.prog xglobs (roundOf Tryz.f9 0) (seqQ (fun s => s = (st9 es 1).toA 89) T) ((st9 es 0).toA 89) := by
  refine run_of [35] [36] (H := H9) (live := ylive9) (by kernel_rfl) ?_
  refine ok_bool (b := true) (ltF_yes hl) (by kernel_rfl) ?_
  refine ok_out (ans_idx ti25_eq rfl h (by rw [ti25_size]; rfl) (by rw [ti25_size]; decide)) (by kernel_rfl) ?_
  refine ok_call (c19_of (nm := nmB 0) (n := Int.ofNat 0) (mc := .dat nl) (mc' := .own [mtD 0]) (w := 2) (k := 0) ⟨.inl rfl, .inr ⟨_, rfl⟩⟩ (c33n hid)) [5, 6, 7, 2, 8] (by kernel_rfl) (by kernel_rfl) (by kernel_rfl) (by kernel_rfl) (by kernel_rfl) (fun _ => ?_)
  exact ok_fin (a := (.normal, st9w es 0 (Int.ofNat 1) [mtD 0])) (by kernel_rfl) rfl
theorem r9_s {es : List Dat} {T : Exit → AState → Prop} {i : Nat} (hi : i + 1 < 200) (hid : Ident (nmB (i + 1))) (hl : i + 1 < es.length) (h : es[i + 1]? = some (edD (i + 1))) :
    ACode Tryz.prog xglobs (roundOf Tryz.f9 0) (seqQ (fun s => s = (st9 es (i + 1 + 1)).toA 89) T) ((st9 es (i + 1)).toA 89) := by
  refine run_of [35] [36] (H := H9) (live := ylive9) (by kernel_rfl) ?_
  refine ok_bool (b := true) (ltF_yes hl) (by kernel_rfl) ?_
  refine ok_out (ans_idx ti25_eq rfl h (by rw [ti25_size]; rfl) (by rw [ti25_size]; decide)) (by kernel_rfl) ?_
  refine ok_call (c19_of (mc := .own (msU (i + 1))) ⟨.inr ⟨_, rfl⟩, .inr ⟨_, rfl⟩⟩ (c33 (n := Int.ofNat (i + 1)) hid (msU_other hi) (by rw [msU_length]; exact hi))) [5, 6, 7, 2, 8] (by kernel_rfl) (by kernel_rfl) (by kernel_rfl) (by kernel_rfl) (by kernel_rfl) (fun _ => ?_)
  refine ok_fin (a := (.normal, st9w es (i + 1) (wrapF .i64 (Int.ofNat (i + 1) + 1)) (msU (i + 1) ++ [methD (Int.ofNat ((msU (i + 1)).length + 1)) (nmB (i + 1)) (Int.ofNat (i + 1))]))) (by kernel_rfl) ?_
  rw [wrap_of (by omega), msU_length]
  show (st9w es (i + 1) (Int.ofNat (i + 1 + 1)) (msU (i + 1) ++ [mtD (i + 1)])).toA 89 = _
  rw [← msU_succ]
  rfl
end Go.Proofs.YteanmfacikjjhaaGreatDoor
namespace Go.Proofs.YteanmfacikjjhaaGreatDoor
open Go.Tp
set_option maxRecDepth 100000
set_option maxHeartbeats 4000000
theorem c20 : ACalls Tryz.prog xglobs 20 [.ptr (.out 1) 0] HH 2 (XQ ⟨.own declsD, HH, 2⟩) := Y_ok _ _ _ _ _ (by kernel_rfl)
noncomputable def rd0 : Code := roundOf Tryz.f9 0
noncomputable def rd1 : Code := roundOf Tryz.f9 1
/-- The table behind an Apply that went well. -/
def HT7 (mc : AVal) (w : Int) : Heap := [(.out 7, .map []), (.out 4, tabO mc 7 w), (.out 3, .map []), (.out 2, .map []), (.out 1, hierO), (.out 0, .map idxM)]

/-! ### All edits -/
def st9x (es : List Dat) (ms : List Dat) : FState := ⟨[(35, bv false), (34, iv (Int.ofNat 200)), (33, iv (Int.ofNat es.length)), (32, .dat (.slice es)), (5, .ptr (.out 8) 0), (0, .ptr (.out 4) 0)], lo7 199, (.out 8, cO (.own ms)) :: HT1 (.dat nl) 1, 9⟩
/-- The first loop, for edits that are all right. -/
theorem l9_all {es : List Dat} (hlen : es.length = 200) (hid : ∀ i, i < 200 → Ident (nmB i)) (h : ∀ i, i < 200 → es[i]? = some (edD i)) :
    ACode Tryz.prog xglobs (.loop rd0) (fun e s => e = .exit 0 ∧ s = (st9x es (msU 200)).toA 89) ((st9 es 0).toA 89) := by
  refine loop_count (St := fun i => (st9 es i).toA 89) 200 ?_ ?_ (i := 0) (Nat.zero_le _)
  · intro i hi
    cases i with
    | zero => exact r9_0 (hid 0 hi) (by omega) (h 0 hi)
    | succ i => exact r9_s hi (hid _ hi) (by omega) (h _ hi)
  · refine run_of [35] [36] (H := H9) (live := ylive9) (f := st9 es (199 + 1)) (by kernel_rfl) ?_
    refine ok_bool (b := false) (ltF_no (i := 200) (L := es.length) (by omega)) (by kernel_rfl) ?_
    exact ok_fin (a := (.exit 0, st9x es (msU 200))) (by kernel_rfl) ⟨rfl, rfl⟩
def st9b (ms : List Dat) : FState := ⟨[(52, iv 0), (51, iv 4), (50, .own declsD), (5, .ptr (.out 8) 0), (0, .ptr (.out 4) 0)], lo7 199, (.out 8, cO (.own ms)) :: HT1 (.dat nl) 1, 9⟩
def loD : Name × AObj := (.loc 10, .cells [.dat (str ⟨⟨bNil⟩⟩), iv 0, iv 0, .dat s0, iv 0, .dat nl, bv true, .dat nl])
def st9c (ms : List Dat) : FState := ⟨[(53, bv false), (52, iv 4), (51, iv 4), (50, .own declsD), (5, .ptr (.out 8) 0), (0, .ptr (.out 4) 0)], loD :: lo7 199, (.out 8, cO (.own ms)) :: HT1 (.dat nl) 1, 9⟩
theorem l9b_run (ms : List Dat) : fcode Y (env Prims.fast) xglobs H9 89 ylive9 3000 (.loop rd1) (st9b ms) = some (.exit 2, st9c ms) := by kernel_rfl
theorem c9all {es : List Dat} (hlen : es.length = 200) (hid : ∀ i, i < 200 → Ident (nmB i)) (h : ∀ i, i < 200 → es[i]? = some (edD i)) :
    ACalls Tryz.prog xglobs 9 [.ptr (.out 4) 0, .dat (.slice es)] (HT (.dat nl) 1) 5 (XQ ⟨iv 0, HT7 (.dat (.slice (msU 200))) 2, 9⟩) := by
  have key : ∀ ms, ACode Tryz.prog xglobs (.loop rd0) (fun e s => e = .exit 0 ∧ s = (st9x es ms).toA 89) ((st9 es 0).toA 89) → ACalls Tryz.prog xglobs 9 [.ptr (.out 4) 0, .dat (.slice es)] (HT (.dat nl) 1) 5 (XQ ⟨iv 0, HT7 (.dat (.slice ms)) 2, 9⟩) := by
    intro ms hl
    refine call_of [] [] (x := XFn.of Tryz.f9 yord9 ylive9) (by kernel_rfl) ?_
    refine ok_call c18n [0, 1, 3] (by kernel_rfl) (by kernel_rfl) (by kernel_rfl) (by kernel_rfl) (by kernel_rfl) (fun _ => ?_)
    refine ok_stay (h := HT (.dat nl) 1) (h' := HT1 (.dat nl) 1) (stays_new rfl (stays_new rfl (stays_new rfl (stays_refl _)))) (by kernel_rfl) ?_
    refine ok_loop (n := 89) (c := rd0) (f := st9 es 0) (by kernel_rfl) (by kernel_rfl) hl ?_
    rintro e s ⟨rfl, rfl⟩
    refine ⟨_, rfl, ?_⟩
    refine ok_call c20 [5, 6] (by kernel_rfl) (by kernel_rfl) (by kernel_rfl) (by kernel_rfl) (by kernel_rfl) (fun _ => ?_)
    refine ok_loop (n := 89) (c := rd1) (f := st9b ms) (by kernel_rfl) (by kernel_rfl) (code_run envF Y_ok 3000 (by kernel_rfl) (l9b_run ms)) ?_
    rintro e s ⟨rfl, rfl⟩
    refine ⟨_, rfl, ?_⟩
    exact ok_fin (by kernel_rfl) rfl
  exact key _ (l9_all hlen hid h)

/-! ### One edit too many -/
def nmM : ByteArray := ⟨⟨[102]⟩⟩
def moreD : Dat := .agg (editL nmM 0)
def lo7m : Heap := [(.loc 7, .cells ((editL nmM 0).map AVal.dat))]
def st9r (ms : List Dat) : FState := ⟨[(4, iv 8)], lo7m, (.out 8, cO (.own ms)) :: HT1 (.dat nl) 1, 9⟩
theorem c9full {es : List Dat} (hlen : es.length = 201) (hid : ∀ i, i < 200 → Ident (nmB i)) (h : ∀ i, i < 200 → es[i]? = some (edD i)) (hm : es[200]? = some moreD) (hidm : Ident nmM) (ho : Other nmM (msU 200)) :
    ACalls Tryz.prog xglobs 9 [.ptr (.out 4) 0, .dat (.slice es)] (HT (.dat nl) 1) 5 (XQ ⟨iv 8, HT (.dat nl) 1, 5⟩) := by
  have hl : ACode Tryz.prog xglobs (.loop rd0) (fun e s => e = .ret ∧ ∃ ms, s = (st9r ms).toA 89) ((st9 es 0).toA 89) := by
    refine loop_count (St := fun i => (st9 es i).toA 89) 200 ?_ ?_ (i := 0) (Nat.zero_le _)
    · intro i hi
      cases i with
      | zero => exact r9_0 (hid 0 hi) (by omega) (h 0 hi)
      | succ i => exact r9_s hi (hid _ hi) (by omega) (h _ hi)
    · refine run_of [35] [36] (H := H9) (live := ylive9) (f := st9 es (199 + 1)) (by kernel_rfl) ?_
      refine ok_bool (b := true) (ltF_yes (i := 200) (L := es.length) (by omega)) (by kernel_rfl) ?_
      refine ok_out (ans_idx ti25_eq rfl (i := 200) hm (by rw [ti25_size]; rfl) (by rw [ti25_size]; decide)) (by kernel_rfl) ?_
      refine ok_call (c19_of (mc := .own (msU 200)) (mc' := .own (msU 200)) ⟨.inr ⟨_, rfl⟩, .inr ⟨_, rfl⟩⟩ (c33full (n := 0) 2 hidm ho (msU_length _))) [5, 6, 7, 2, 8] (by kernel_rfl) (by kernel_rfl) (by kernel_rfl) (by kernel_rfl) (by kernel_rfl) (fun _ => ?_)
      exact ok_fin (a := (.ret, st9r (msU 200))) (by kernel_rfl) ⟨rfl, _, rfl⟩
  refine call_of [] [] (x := XFn.of Tryz.f9 yord9 ylive9) (by kernel_rfl) ?_
  refine ok_call c18n [0, 1, 3] (by kernel_rfl) (by kernel_rfl) (by kernel_rfl) (by kernel_rfl) (by kernel_rfl) (fun _ => ?_)
  refine ok_stay (h := HT (.dat nl) 1) (h' := HT1 (.dat nl) 1) (stays_new rfl (stays_new rfl (stays_new rfl (stays_refl _)))) (by kernel_rfl) ?_
  refine ok_loop (n := 89) (c := rd0) (f := st9 es 0) (by kernel_rfl) (by kernel_rfl) hl ?_
  rintro e s ⟨rfl, ms, rfl⟩
  exact ⟨_, rfl, ok_fin (by kernel_rfl) rfl⟩

/-! ### No edits -/
def cOn (ms : List Dat) (w : Int) : AObj := .cells [.ptr (.out 6) 0, .dat (.slice ms), .map (.out 7), iv w, .map (.out 2)]
def st9n (ms : List Dat) (w w1 : Int) : FState := ⟨[(34, iv 0), (33, iv 0), (32, .dat nl), (5, .ptr (.loc 31) 0), (0, .ptr (.out 4) 0)], [(.loc 31, cOn ms w1)], HT1 (.dat (.slice ms)) w, 8⟩
def st9nx (ms : List Dat) (w w1 : Int) : FState := ⟨[(35, bv false), (34, iv 0), (33, iv 0), (32, .dat nl), (5, .ptr (.loc 31) 0), (0, .ptr (.out 4) 0)], [(.loc 31, cOn ms w1)], HT1 (.dat (.slice ms)) w, 8⟩
theorem l9n_run (ms : List Dat) (w w1 : Int) : fcode Y (env Prims.fast) xglobs H9 89 ylive9 3000 (.loop rd0) (st9n ms w w1) = some (.exit 0, st9nx ms w w1) := by kernel_rfl
def st9nb (ms : List Dat) (w w1 : Int) : FState := ⟨[(52, iv 0), (51, iv 4), (50, .own declsD), (5, .ptr (.loc 31) 0), (0, .ptr (.out 4) 0)], [(.loc 31, cOn ms w1)], HT1 (.dat (.slice ms)) w, 8⟩
def st9nc (ms : List Dat) (w w1 : Int) : FState := ⟨[(53, bv false), (52, iv 4), (51, iv 4), (50, .own declsD), (5, .ptr (.loc 31) 0), (0, .ptr (.out 4) 0)], [loD, (.loc 31, cOn ms w1)], HT1 (.dat (.slice ms)) w, 8⟩
theorem l9nb_run (ms : List Dat) (w w1 : Int) : fcode Y (env Prims.fast) xglobs H9 89 ylive9 3000 (.loop rd1) (st9nb ms w w1) = some (.exit 2, st9nc ms w w1) := by kernel_rfl
theorem c9nil {m : Dat} {ms : List Dat} (hM : ∀ d ∈ m :: ms, IsM d) (hL : (m :: ms).length < 1000) {w : Nat} (hw : w < 1000) :
    ACalls Tryz.prog xglobs 9 [.ptr (.out 4) 0, .dat nl] (HT (.dat (.slice (m :: ms))) (Int.ofNat w)) 5 (XQ ⟨iv 0, HT7 (.dat (.slice (m :: ms))) (Int.ofNat (w + 1)), 8⟩) := by
  rw [← wrap_of (i := w) (by omega)]
  refine call_of [15] [] (x := XFn.of Tryz.f9 yord9 ylive9) (by kernel_rfl) ?_
  refine ok_bool (b := false) (c := !ltF (Int.ofNat w) (Int.ofNat 1000)) (by rw [ltF_yes hw]; rfl) (by kernel_rfl) ?_
  refine ok_call (c18 hM hL) [0, 1, 3] (by kernel_rfl) (by kernel_rfl) (by kernel_rfl) (by kernel_rfl) (by kernel_rfl) (fun _ => ?_)
  refine ok_stay (h := HT (.dat (.slice (m :: ms))) (Int.ofNat w)) (h' := HT1 (.dat (.slice (m :: ms))) (Int.ofNat w)) (stays_new rfl (stays_new rfl (stays_new rfl (stays_refl _)))) (by kernel_rfl) ?_
  refine ok_loop (n := 89) (c := rd0) (f := st9n (m :: ms) (Int.ofNat w) (wrapF .i64 (Int.ofNat w + 1))) (by kernel_rfl) (by kernel_rfl) (code_run envF Y_ok 3000 (by kernel_rfl) (l9n_run _ _ _)) ?_
  rintro e s ⟨rfl, rfl⟩
  refine ⟨_, rfl, ?_⟩
  refine ok_call c20 [5, 6] (by kernel_rfl) (by kernel_rfl) (by kernel_rfl) (by kernel_rfl) (by kernel_rfl) (fun _ => ?_)
  refine ok_loop (n := 89) (c := rd1) (f := st9nb (m :: ms) (Int.ofNat w) (wrapF .i64 (Int.ofNat w + 1))) (by kernel_rfl) (by kernel_rfl) (code_run envF Y_ok 3000 (by kernel_rfl) (l9nb_run _ _ _)) ?_
  rintro e s ⟨rfl, rfl⟩
  refine ⟨_, rfl, ?_⟩
  exact ok_fin (by kernel_rfl) rfl

/-! ### No world is left -/
theorem c9max (e : Dat) (ms : List Dat) {w : Nat} (hw : ¬ w < 1000) :
    ACalls Tryz.prog xglobs 9 [.ptr (.out 4) 0, .dat e] (HT (.dat (.slice ms)) (Int.ofNat w)) 5 (XQ ⟨iv 8, HT (.dat (.slice ms)) (Int.ofNat w), 5⟩) := by
  refine call_of [15] [] (x := XFn.of Tryz.f9 yord9 ylive9) (by kernel_rfl) ?_
  refine ok_bool (b := true) (c := !ltF (Int.ofNat w) (Int.ofNat 1000)) (by rw [ltF_no hw]; rfl) (by kernel_rfl) ?_
  exact ok_fin (by kernel_rfl) rfl

/-! ### One more where there are as many as may be -/
theorem c58d {nm : ByteArray} {ms : List Dat} (w : Int) (ho : Other nm ms) (hl : ms.length < 1000) : ACalls Tryz.prog xglobs 58 [.ptr (.out 4) 0, .dat (str nm), .dat (.agg sigC)] (HC (.dat (.slice ms)) w) 5 (XQ ⟨iv (-1), HC (.dat (.slice ms)) w, 5⟩) := by
  refine call_of [] [] (x := XFn.of Tryz.f58 yord58 ylive58) (by kernel_rfl) ?_
  refine ok_np (c91 ho hl) (by kernel_rfl) (by kernel_rfl) rfl (fun _ => ?_)
  exact ok_fin (by kernel_rfl) rfl
theorem c33d {nm : ByteArray} {n : Int} {ms : List Dat} (w : Int) (hid : Ident nm) (ho : Other nm ms) (hl : ms.length = 200) :
    ACalls Tryz.prog xglobs 33 (argsE nm n) (HC (.dat (.slice ms)) w) 5 (XQ ⟨iv 8, HC (.dat (.slice ms)) w, 5⟩) := by
  refine call_of [104] [146] (x := XFn.of Tryz.f33 yord33 ylive33) (by kernel_rfl) ?_
  refine ok_np hid (by kernel_rfl) (by kernel_rfl) rfl (fun _ => ?_)
  refine ok_np (valid_ok n) (by kernel_rfl) (by kernel_rfl) rfl (fun _ => ?_)
  refine ok_call norm_ok [0, 1] (by kernel_rfl) (by kernel_rfl) (by kernel_rfl) (by kernel_rfl) (by kernel_rfl) (fun _ => ?_)
  refine ok_np sig_ok (by kernel_rfl) (by kernel_rfl) rfl (fun _ => ?_)
  refine ok_call (nc_ok n) [0, 1] (by kernel_rfl) (by kernel_rfl) (by kernel_rfl) (by kernel_rfl) (by kernel_rfl) (fun _ => ?_)
  refine ok_call (c58d w ho (by omega)) [0, 1, 2, 3, 4] (by kernel_rfl) (by kernel_rfl) (by kernel_rfl) (by kernel_rfl) (by kernel_rfl) (fun _ => ?_)
  refine ok_bool (b := true) (c := !ltF (Int.ofNat ms.length) (Int.ofNat 200)) (by rw [ltF_no (by omega)]; rfl) (by kernel_rfl) ?_
  exact ok_fin (by kernel_rfl) rfl
theorem c19d {nm : ByteArray} {n : Int} {ms : List Dat} {w k : Int} (h : ACalls Tryz.prog xglobs 33 (argsE nm n) (HC (.dat (.slice ms)) w) 5 (XQ ⟨iv k, HC (.dat (.slice ms)) w, 5⟩)) :
    ACalls Tryz.prog xglobs 19 [.ptr (.out 4) 0, .dat (.agg (editL nm n))] (HC (.dat (.slice ms)) w) 5 (XQ ⟨iv k, HC (.dat (.slice ms)) w, 5⟩) := by
  refine call_of [] [] (x := XFn.of Tryz.f19 yord19 ylive19) (by kernel_rfl) ?_
  refine ok_call h [0, 1, 2, 3, 4] (by kernel_rfl) (by kernel_rfl) (by kernel_rfl) (by kernel_rfl) (by kernel_rfl) (fun _ => ?_)
  exact ok_fin (by kernel_rfl) rfl
def st9m (ms : List Dat) : FState := ⟨[(34, iv (Int.ofNat 0)), (33, iv (Int.ofNat 1)), (32, .dat (.slice [moreD])), (5, .ptr (.loc 31) 0), (0, .ptr (.out 4) 0)], [(.loc 31, cOn ms 3)], HT1 (.dat (.slice ms)) 2, 8⟩
def st9mr (ms : List Dat) : FState := ⟨[(4, iv 8)], lo7m, (.out 8, cOn ms 3) :: HT1 (.dat (.slice ms)) 2, 9⟩
theorem c9more {m : Dat} {ms : List Dat} (hM : ∀ d ∈ m :: ms, IsM d) (hL : (m :: ms).length = 200) (hidm : Ident nmM) (ho : Other nmM (m :: ms)) :
    ACalls Tryz.prog xglobs 9 [.ptr (.out 4) 0, .dat (.slice [moreD])] (HT (.dat (.slice (m :: ms))) 2) 5 (XQ ⟨iv 8, HT (.dat (.slice (m :: ms))) 2, 5⟩) := by
  have hl : ACode Tryz.prog xglobs (.loop rd0) (fun e s => e = .ret ∧ s = (st9mr (m :: ms)).toA 89) ((st9m (m :: ms)).toA 89) := by
    refine loop_count (St := fun _ => (st9m (m :: ms)).toA 89) 0 ?_ ?_ (i := 0) (Nat.zero_le _)
    · intro i hi; omega
    · refine run_of [] [] (H := H9) (live := ylive9) (by kernel_rfl) ?_
      refine ok_call (c19d (c33d (n := 0) 3 hidm ho hL)) [5, 6, 7, 2, 8] (by kernel_rfl) (by kernel_rfl) (by kernel_rfl) (by kernel_rfl) (by kernel_rfl) (fun _ => ?_)
      exact ok_fin (a := (.ret, st9mr (m :: ms))) (by kernel_rfl) ⟨rfl, rfl⟩
  refine call_of [] [] (x := XFn.of Tryz.f9 yord9 ylive9) (by kernel_rfl) ?_
  refine ok_call (c18 hM (by omega)) [0, 1, 3] (by kernel_rfl) (by kernel_rfl) (by kernel_rfl) (by kernel_rfl) (by kernel_rfl) (fun _ => ?_)
  refine ok_stay (h := HT (.dat (.slice (m :: ms))) 2) (h' := HT1 (.dat (.slice (m :: ms))) 2) (stays_new rfl (stays_new rfl (stays_new rfl (stays_refl _)))) (by kernel_rfl) ?_
  refine ok_loop (n := 89) (c := rd0) (f := st9m (m :: ms)) (by kernel_rfl) (by kernel_rfl) hl ?_
  rintro e s ⟨rfl, rfl⟩
  exact ⟨_, rfl, ok_fin (by kernel_rfl) rfl⟩
end Go.Proofs.YteanmfacikjjhaaGreatDoor
namespace Go.Proofs.YteanmfacikjjhaaGreatDoor
open Go.Tp
set_option maxRecDepth 100000
set_option maxHeartbeats 4000000

theorem ans_cat {E : TEnv} {t : TypeId} {x y : ByteArray} (hp : E.pr = Prims.fast) (h : x.size + y.size ≤ 9223372036854775807) :
    aBin E .add t [.dat (.flat (.string x)), .dat (.flat (.string y))] = some ⟨.dat (.flat (.string ⟨⟨x.data.toList ++ y.data.toList⟩⟩)), .keep⟩ := by
  simp only [aBin, flatBin, strBin, hp, Prims.fast, ble_mk h]
  rfl
theorem digs_size (i : Nat) : (⟨⟨digs i⟩⟩ : ByteArray).size ≤ 3 := by
  unfold digs
  split
  · simp [ByteArray.size]
  · split <;> simp [ByteArray.size]

/-! ### The edits are made -/
def Digit (i : Nat) : Prop := ACalls Tryz.prog xglobs 8 [iv (Int.ofNat i)] [] 0 (XQ ⟨.dat (str ⟨⟨digs i⟩⟩), [], 0⟩)
theorem named_ok : ACalls Tryz.prog xglobs 7 [.dat (str ⟨⟨bInt⟩⟩), .dat nl] [] 0 (XQ ⟨.dat tyInt, [], 0⟩) := Y_ok _ _ _ _ _ (by kernel_rfl)
theorem add_ok (n : Int) : ACalls Tryz.prog xglobs 6 [.dat tyInt, iv n] [] 0 (XQ ⟨.dat (.agg (editL nmM n)), [], 0⟩) := Y_ok _ _ _ _ _ (by kernel_rfl)
def esU (k : Nat) : List Dat := (List.range k).map edD
theorem esU_succ (k : Nat) : esU (k + 1) = esU k ++ [edD k] := by simp [esU, List.range_succ]
theorem esU_length (k : Nat) : (esU k).length = k := by simp [esU]
theorem esU_sized (k : Nat) : sizedB 20 (esU k) = true :=
  sizedB_of fun d hd => by
    simp only [esU, List.mem_map] at hd
    obtain ⟨i, _, rfl⟩ := hd
    rfl
theorem esU_bytes (k : Nat) (d : List Dat) : byteOk (env Prims.fast) 25 (esU k ++ [.agg d]) = true := by
  cases k with
  | zero => rfl
  | succ k => rw [esU, List.range_succ_eq_map]; rfl
noncomputable def H3 : Hints := ⟨ymoves, yord3, ycaps, rowsOf ycaps 3⟩
noncomputable def rl0 : Code := roundOf Tryz.f3 0
noncomputable def rl1 : Code := roundOf Tryz.f3 1
theorem ti25_bytes : Nat.ble ti25.bytes 1000 = true := by kernel_rfl
def lo6 (i : Nat) : Heap := [(.loc 6, .cells ((editL (nmB i) (Int.ofNat i)).map AVal.dat))]
def st3 (n : Int) : Nat → FState
  | 0 => ⟨[(5, iv (Int.ofNat 0)), (4, .dat nl), (3, .ptr (.out 4) 0), (0, iv n)], [], HT (.dat nl) 1, 5⟩
  | k + 1 => ⟨[(5, iv (Int.ofNat (k + 1))), (4, .own (esU (k + 1))), (3, .ptr (.out 4) 0), (0, iv n)], lo6 k, HT (.dat nl) 1, 5⟩
def st3w (n : Int) (i : Nat) (k : Int) (es : List Dat) : FState := ⟨[(5, iv k), (4, .own es), (3, .ptr (.out 4) 0), (0, iv n)], lo6 i, HT (.dat nl) 1, 5⟩
def st3x (n : Int) (es : List Dat) : FState := ⟨[(17, bv false), (5, iv 200), (4, .own es), (3, .ptr (.out 4) 0), (0, iv n)], lo6 199, HT (.dat nl) 1, 5⟩
theorem edit_sized (i : Nat) : sizedB 20 [edD i] = true := by kernel_rfl
theorem r3_0 (n : Int) {T : Exit → AState → Prop} (hd : Digit 0) : ACode Tryz.prog xglobs rl0 (seqQ (fun s => s = (st3 n 1).toA 92) T) ((st3 n 0).toA 92) := by
  refine run_of [] [] (H := H3) (live := ylive3) (by kernel_rfl) ?_
  refine ok_np named_ok (by kernel_rfl) (by kernel_rfl) rfl (fun _ => ?_)
  refine ok_np (add_ok (Int.ofNat 0)) (by kernel_rfl) (by kernel_rfl) rfl (fun _ => ?_)
  refine ok_np hd (by kernel_rfl) (by kernel_rfl) rfl (fun _ => ?_)
  exact ok_fin (a := (.normal, st3w n 0 (Int.ofNat 1) (esU 1))) (by kernel_rfl) rfl
theorem r3_s (n : Int) {T : Exit → AState → Prop} {i : Nat} (hi : i + 1 < 200) (hd : Digit (i + 1)) : ACode Tryz.prog xglobs rl0 (seqQ (fun s => s = (st3 n (i + 1 + 1)).toA 92) T) ((st3 n (i + 1)).toA 92) := by
  refine run_of [17] [25, 30] (H := H3) (live := ylive3) (by kernel_rfl) ?_
  refine ok_bool (b := true) (ltF_yes hi) (by kernel_rfl) ?_
  refine ok_np named_ok (by kernel_rfl) (by kernel_rfl) rfl (fun _ => ?_)
  refine ok_np (add_ok (Int.ofNat (i + 1))) (by kernel_rfl) (by kernel_rfl) rfl (fun _ => ?_)
  refine ok_np hd (by kernel_rfl) (by kernel_rfl) rfl (fun _ => ?_)
  refine ok_out (ans_cat (E := env Prims.fast) (t := 9) (x := ⟨⟨[102]⟩⟩) (y := ⟨⟨digs (i + 1)⟩⟩) rfl ?_) (by kernel_rfl) ?_
  · have := digs_size (i + 1)
    have h1 : (⟨⟨[102]⟩⟩ : ByteArray).size = 1 := rfl
    omega
  refine ok_out (ans_app (t := 25) (i := ti25) (es := esU (i + 1)) (ds := [edD (i + 1)]) (ob := none) (take := false) (k := 19) ti25_eq rfl ti25_size (edit_sized _) (esU_sized _) (by kernel_rfl) ?_ ?_ (esU_bytes _ _) rfl) (by kernel_rfl) ?_
  · have := ble_to ti25_bytes
    rw [esU_length]
    simp only [List.length_singleton]
    calc (i + 1 + 1) * ti25.bytes ≤ 200 * 1000 := Nat.mul_le_mul (by omega) this
      _ ≤ 140737488355328 := by decide
  · rw [esU_length]; simp [lim]; omega
  refine ok_fin (a := (.normal, st3w n (i + 1) (wrapF .i64 (Int.ofNat (i + 1) + 1)) (esU (i + 1) ++ [edD (i + 1)]))) (by kernel_rfl) ?_
  rw [wrap_of (by omega), ← esU_succ]
  rfl
theorem l3_ok (n : Int) (hd : ∀ i, i < 200 → Digit i) : ACode Tryz.prog xglobs (.loop rl0) (fun e s => e = .exit 0 ∧ s = (st3x n (esU 200)).toA 92) ((st3 n 0).toA 92) := by
  refine loop_count (St := fun i => (st3 n i).toA 92) 200 ?_ ?_ (i := 0) (Nat.zero_le _)
  · intro i hi
    cases i with
    | zero => exact r3_0 n (hd 0 hi)
    | succ i => exact r3_s n hi (hd _ hi)
  · refine run_of [17] [] (H := H3) (live := ylive3) (f := st3 n (199 + 1)) (by kernel_rfl) ?_
    refine ok_bool (b := false) (ltF_no (i := 200) (L := 200) (by omega)) (by kernel_rfl) ?_
    exact ok_fin (a := (.exit 0, st3x n (esU 200))) (by kernel_rfl) ⟨rfl, rfl⟩

/-! ### The worlds -/
theorem c11 (ms : List Dat) (w : Int) : ACalls Tryz.prog xglobs 11 [.ptr (.out 4) 0] (HT (.dat (.slice ms)) w) 5 (XQ ⟨iv w, HT (.dat (.slice ms)) w, 5⟩) := Y_ok _ _ _ _ _ (by kernel_rfl)
def HT9 (mc : AVal) (w : Int) : Heap := [(.out 9, .map []), (.out 7, .map []), (.out 4, tabO mc 9 w), (.out 3, .map []), (.out 2, .map []), (.out 1, hierO), (.out 0, .map idxM)]
def loW : Heap := lo7m ++ lo6 199
def stW0 (n : Int) (ms : List Dat) : FState := ⟨[(60, bv false), (3, .ptr (.out 4) 0), (0, iv n)], loW, HT7 (.dat (.slice ms)) 2, 9⟩
def stW (n : Int) (ms : List Dat) (w : Nat) : FState := ⟨[(75, bv false), (3, .ptr (.out 4) 0), (0, iv n)], loW, HT9 (.dat (.slice ms)) (Int.ofNat w), 10⟩
def stWx (n : Int) (ms : List Dat) : FState := ⟨[(63, bv false), (3, .ptr (.out 4) 0), (0, iv n)], loW, HT9 (.dat (.slice ms)) 1000, 10⟩
def stW0n (n : Int) (ms : List Dat) : FState := ⟨[(75, bv false), (3, .ptr (.out 4) 0), (0, iv n)], loW, [(.out 11, .map []), (.out 7, .map []), (.out 4, tabO (.dat (.slice ms)) 11 3), (.out 3, .map []), (.out 2, .map []), (.out 1, hierO), (.out 0, .map idxM)], 12⟩
def stWn (n : Int) (ms : List Dat) (w : Nat) : FState := ⟨[(75, bv false), (3, .ptr (.out 4) 0), (0, iv n)], loW, [(.out 12, .map []), (.out 9, .map []), (.out 7, .map []), (.out 4, tabO (.dat (.slice ms)) 12 (Int.ofNat w)), (.out 3, .map []), (.out 2, .map []), (.out 1, hierO), (.out 0, .map idxM)], 13⟩
theorem rW0 (n : Int) {m : Dat} {ms : List Dat} (hM : ∀ d ∈ m :: ms, IsM d) (hL : (m :: ms).length < 1000) : ACode Tryz.prog xglobs rl1 (fun e s => e = .normal ∧ s = (stW0n n (m :: ms)).toA 92) ((stW0 n (m :: ms)).toA 92) := by
  refine run_of [] [] (H := H3) (live := ylive3) (by kernel_rfl) ?_
  refine ok_call (c11 (m :: ms) 2) [0, 1, 2, 7, 4] (by kernel_rfl) (by kernel_rfl) (by kernel_rfl) (by kernel_rfl) (by kernel_rfl) (fun _ => ?_)
  refine ok_call (c11 (m :: ms) 2) [0, 1, 2, 7, 4] (by kernel_rfl) (by kernel_rfl) (by kernel_rfl) (by kernel_rfl) (by kernel_rfl) (fun _ => ?_)
  refine ok_call (c9nil hM hL (w := 2) (by omega)) [0, 1, 2, 7, 4] (by kernel_rfl) (by kernel_rfl) (by kernel_rfl) (by kernel_rfl) (by kernel_rfl) (fun _ => ?_)
  refine ok_call (c11 (m :: ms) 3) [0, 1, 2, 11, 4] (by kernel_rfl) (by kernel_rfl) (by kernel_rfl) (by kernel_rfl) (by kernel_rfl) (fun _ => ?_)
  exact ok_fin (a := (.normal, stW0n n (m :: ms))) (by kernel_rfl) ⟨rfl, rfl⟩
theorem rW (n : Int) {m : Dat} {ms : List Dat} (hM : ∀ d ∈ m :: ms, IsM d) (hL : (m :: ms).length < 1000) {w : Nat} (hw : w < 1000) : ACode Tryz.prog xglobs rl1 (fun e s => e = .normal ∧ s = (stWn n (m :: ms) (w + 1)).toA 92) ((stW n (m :: ms) w).toA 92) := by
  refine run_of [63, 74] [] (H := H3) (live := ylive3) (by kernel_rfl) ?_
  refine ok_call (c11 (m :: ms) (Int.ofNat w)) [0, 1, 2, 9, 4] (by kernel_rfl) (by kernel_rfl) (by kernel_rfl) (by kernel_rfl) (by kernel_rfl) (fun _ => ?_)
  refine ok_bool (b := true) (ltF_yes hw) (by kernel_rfl) ?_
  refine ok_call (c11 (m :: ms) (Int.ofNat w)) [0, 1, 2, 9, 4] (by kernel_rfl) (by kernel_rfl) (by kernel_rfl) (by kernel_rfl) (by kernel_rfl) (fun _ => ?_)
  refine ok_call (c9nil hM hL hw) [0, 1, 2, 9, 4] (by kernel_rfl) (by kernel_rfl) (by kernel_rfl) (by kernel_rfl) (by kernel_rfl) (fun _ => ?_)
  refine ok_call (c11 (m :: ms) (Int.ofNat (w + 1))) [0, 1, 2, 12, 4] (by kernel_rfl) (by kernel_rfl) (by kernel_rfl) (by kernel_rfl) (by kernel_rfl) (fun _ => ?_)
  refine ok_bool (b := false) (c := !eqF (Int.ofNat (w + 1)) (wrapF .i64 (Int.ofNat w + 1))) (by rw [wrap_of (by omega), eqF_of, decide_eq_true rfl]; rfl) (by kernel_rfl) ?_
  exact ok_fin (a := (.normal, stWn n (m :: ms) (w + 1))) (by kernel_rfl) ⟨rfl, rfl⟩
theorem rWx (n : Int) {m : Dat} {ms : List Dat} : ACode Tryz.prog xglobs rl1 (fun e s => e = .exit 2 ∧ s = (stWx n (m :: ms)).toA 92) ((stW n (m :: ms) 1000).toA 92) := by
  refine run_of [63, 74] [] (H := H3) (live := ylive3) (by kernel_rfl) ?_
  refine ok_call (c11 (m :: ms) (Int.ofNat 1000)) [0, 1, 2, 9, 4] (by kernel_rfl) (by kernel_rfl) (by kernel_rfl) (by kernel_rfl) (by kernel_rfl) (fun _ => ?_)
  refine ok_bool (b := false) (ltF_no (i := 1000) (L := 1000) (by omega)) (by kernel_rfl) ?_
  exact ok_fin (a := (.exit 2, stWx n (m :: ms))) (by kernel_rfl) ⟨rfl, rfl⟩
theorem gW0 (n : Int) (ms : List Dat) : GhostK xglobs 9 ((stW0n n ms).toA 92) ((stW n ms 3).toA 92) := by
  have := ghostK_rn (G := xglobs) 9 [11] (s := (stW0n n ms).toA 92) (by kernel_rfl) (by kernel_rfl) (by kernel_rfl)
  have e : (⟨rnL (rhoK 9 [11]) ((stW0n n ms).toA 92).tmps, rnH (rhoK 9 [11]) ((stW0n n ms).toA 92).locs, rnH (rhoK 9 [11]) (restrictH (keptK 9 [11]) ((stW0n n ms).toA 92).heap), 9 + [11].length⟩ : AState) = (stW n ms 3).toA 92 := by kernel_rfl
  rw [← e]; exact this
theorem gW (n : Int) (ms : List Dat) (w : Nat) : GhostK xglobs 9 ((stWn n ms w).toA 92) ((stW n ms w).toA 92) := by
  have := ghostK_rn (G := xglobs) 9 [12] (s := (stWn n ms w).toA 92) (by kernel_rfl) (by kernel_rfl) (by kernel_rfl)
  have e : (⟨rnL (rhoK 9 [12]) ((stWn n ms w).toA 92).tmps, rnH (rhoK 9 [12]) ((stWn n ms w).toA 92).locs, rnH (rhoK 9 [12]) (restrictH (keptK 9 [12]) ((stWn n ms w).toA 92).heap), 9 + [12].length⟩ : AState) = (stW n ms w).toA 92 := by kernel_rfl
  rw [← e]; exact this
theorem lW (n : Int) {m : Dat} {ms : List Dat} (hM : ∀ d ∈ m :: ms, IsM d) (hL : (m :: ms).length < 1000) :
    ACode Tryz.prog xglobs (.loop rl1) (fun e s => e = .exit 2 ∧ s = (stWx n (m :: ms)).toA 92) ((stW0 n (m :: ms)).toA 92) := by
  refine loopK 9 (I := fun k s => (k = 1000 ∧ s = (stW0 n (m :: ms)).toA 92) ∨ ∃ w, w ≤ 1000 ∧ 3 ≤ w ∧ k = 1000 - w ∧ s = (stW n (m :: ms) w).toA 92) ?_ (m := 1000) (Nat.le_refl 9) (.inl ⟨rfl, rfl⟩)
  rintro k s (⟨rfl, rfl⟩ | ⟨w, hw, h3, rfl, rfl⟩)
  · refine (rW0 n hM hL).mono ?_
    rintro e s ⟨rfl, rfl⟩
    exact ⟨_, 997, by omega, gW0 n _, .inr ⟨3, by omega, by omega, rfl, rfl⟩⟩
  · by_cases h : w < 1000
    · refine (rW n hM hL h).mono ?_
      rintro e s ⟨rfl, rfl⟩
      exact ⟨_, 1000 - (w + 1), by omega, gW n _ _, .inr ⟨w + 1, by omega, by omega, rfl, rfl⟩⟩
    · have : w = 1000 := by omega
      subst this
      refine (rWx n).mono ?_
      rintro e s ⟨rfl, rfl⟩
      exact ⟨rfl, rfl⟩
end Go.Proofs.YteanmfacikjjhaaGreatDoor
