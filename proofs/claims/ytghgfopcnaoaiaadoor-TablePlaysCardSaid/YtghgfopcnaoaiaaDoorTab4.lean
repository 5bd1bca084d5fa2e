/-
  The package table: Reap, New, Born. (Printed by gen_tab4.py.)
-/
import Derived.Test.YtghgfopcnaoaiaaDoorTab3
import Derived.Laws.MakeOwn
import Derived.Deep.Cut
import Derived.Deep.CutRange
import Derived.Deep.CutBlock
import Derived.Deep.DeepCutAuto
namespace Go.Proofs.YtghgfopcnaoaiaaDoor
open Go.RowKit

structure ReapR where
  value : Int
  home : Int
  free : Bool
  kind : Int

def reapF (l : List TRow) (id : Int) : ReapR × List TRow := match idx l id with
  | none => (⟨0, 0, false, 7⟩, l)
  | some i => if (rowOf l i).state ≠ 4 ∨ (rowOf l i).loose = true ∨ (rowOf l i).reaped = true then (⟨0, 0, false, 8⟩, l)
    else if (rowOf l i).stepping = true then (⟨(rowOf l i).value, (rowOf l i).home, false, 0⟩, l.set i { rowOf l i with reaped := true })
    else (⟨(rowOf l i).value, (rowOf l i).home, true, 0⟩, l.set i (rowOf l i).free)

def ReapPost (w : World) (b rb : Nat) (res : ReapR × List TRow) (e : Ending) (w' : World) : Prop :=
  ∃ v, e = .returned (.tuple #[.int .u64 res.1.value, .int .u64 res.1.home, .bool res.1.free, v]) ∧ ErrV w' v (errOf res.1.kind) ∧ TableAt w' b rb res.2 ∧ Keeps [rb] w w'

theorem reap_fail {w : World} {b rb : Nat} {l : List TRow} (hT : TableAt w b rb l) (k : Int) (hk : k ≠ 0) :
    ReapPost w b rb (⟨0, 0, false, k⟩, l) (.returned (.tuple #[.int .u64 0, .int .u64 0, .bool false, .iface 72 (.pointer (some ⟨w.heap.size, 0, none⟩))])) (w.alloc (.cells #[.string tabS, .int .i64 0, .iface 30 (.int .i64 k)] 76)) := by
  refine ⟨_, rfl, ?_, hT.keeps ((Keeps.refl [] _).alloc _) (by simp) (by simp), (Keeps.refl _ _).alloc _⟩
  show ErrV _ _ (errOf k)
  unfold errOf
  rw [if_neg hk]
  exact ErrAt.fresh _ _ _ _

section
variable (b rb : Nat) (l : List TRow) (id : Int) (w : World) (hT : TableAt w b rb l) (h0 : 0 ≤ id)
include hT h0

set_option maxHeartbeats 1000000 in
theorem reap_any : Calls Tryd.prog 17 #[.pointer (some ⟨b, 0, none⟩), .int .u64 id] w (ReapPost w b rb (reapF l id)) := by
  cases hi : idx l id with
  | none =>
    have HI := hid hi
    have HF := hid (show reapF l id = (⟨0, 0, false, 7⟩, l) by unfold reapF; rw [hi])
    rw [HF.out]
    clear hi HF
    go_enter Tryd.func17, Tryd.ntmps17
    go_wp2_with fail
    refine (of_any b rb l id _ hT h0).mono ?_
    rintro e w' ⟨rfl, rfl⟩
    rw [HI.out]
    unfold rowPtr
    go_wp2_with fail
    refine (tfail_any _ _ _).mono ?_
    rintro e w' ⟨rfl, rfl⟩
    go_wp2_with fail
    exact bodyPost_ret (v := .tuple #[.int .u64 0, .int .u64 0, .bool false, .iface 72 (.pointer (some ⟨w.heap.size, 0, none⟩))]) (by simp [results, Tryd.results17, go_sem]) rfl (reap_fail hT 7 (by decide))
  | some i =>
    obtain ⟨r, hr, htk, hid2⟩ := idx_some hi
    have c2 := hT.cell (j := 2) hr (by omega) rfl
    have c4 := hT.cell (j := 4) hr (by omega) rfl
    have c5 := hT.cell (j := 5) hr (by omega) rfl
    have c6 := hT.cell (j := 6) hr (by omega) rfl
    have c8 := hT.cell (j := 8) hr (by omega) rfl
    have c9 := hT.cell (j := 9) hr (by omega) rfl
    have f1 := fun j => hT.2.1.frozen j
    have HR := hid hr
    have HO := rowOf_some hr
    have HI := hid hi
    have h1 := hT.start HR.out

    by_cases hs : r.state = 4
    · rw [hs] at c4
      cases hl : r.loose with
      | true =>
        rw [hl] at c8
        have HF := hid (show reapF l id = (⟨0, 0, false, 8⟩, l) by unfold reapF; rw [hi]; simp [HO, hl])
        rw [HF.out]
        clear HF
        clear hi hr HO hid2 htk
        clear hs hl
        go_enter Tryd.func17, Tryd.ntmps17
        go_wp2_with fail
        refine (of_any b rb l id _ hT h0).mono ?_
        rintro e w' ⟨rfl, rfl⟩
        rw [HI.out]
        unfold rowPtr
        go_wp2_with fail
        refine (tfail_any _ _ _).mono ?_
        rintro e w' ⟨rfl, rfl⟩
        go_wp2_with fail
        exact bodyPost_ret (v := .tuple #[.int .u64 0, .int .u64 0, .bool false, .iface 72 (.pointer (some ⟨w.heap.size, 0, none⟩))]) (by simp [results, Tryd.results17, go_sem]) rfl (reap_fail hT 8 (by decide))
      | false =>
        rw [hl] at c8
        cases hq : r.reaped with
        | true =>
          rw [hq] at c2
          have HF := hid (show reapF l id = (⟨0, 0, false, 8⟩, l) by unfold reapF; rw [hi]; simp [HO, hq])
          rw [HF.out]
          clear HF
          clear hi hr HO hid2 htk
          clear hs hl hq
          go_enter Tryd.func17, Tryd.ntmps17
          go_wp2_with fail
          refine (of_any b rb l id _ hT h0).mono ?_
          rintro e w' ⟨rfl, rfl⟩
          rw [HI.out]
          unfold rowPtr
          go_wp2_with fail
          refine (tfail_any _ _ _).mono ?_
          rintro e w' ⟨rfl, rfl⟩
          go_wp2_with fail
          exact bodyPost_ret (v := .tuple #[.int .u64 0, .int .u64 0, .bool false, .iface 72 (.pointer (some ⟨w.heap.size, 0, none⟩))]) (by simp [results, Tryd.results17, go_sem]) rfl (reap_fail hT 8 (by decide))
        | false =>
          rw [hq] at c2
          cases hp : r.stepping with
          | true =>
            rw [hp] at c9
            have HF := hid (show reapF l id = (⟨r.value, r.home, false, 0⟩, l.set i { r with reaped := true }) by unfold reapF; rw [hi]; simp [HO, hs, hl, hq, hp])
            rw [HF.out]
            clear HF
            clear hi hr HO hid2 htk
            clear hs hl hq hp
            go_enter Tryd.func17, Tryd.ntmps17
            go_wp2_with fail
            refine (of_any b rb l id _ hT h0).mono ?_
            rintro e w' ⟨rfl, rfl⟩
            rw [HI.out]
            unfold rowPtr
            go_wp2_with fail
            go_quiet (fail)
            go_wp2_with fail
            exact bodyPost_ret (v := .tuple #[.int .u64 r.value, .int .u64 r.home, .bool false, .nilIface]) (by simp [results, Tryd.results17, go_sem]) rfl (⟨_, rfl, rfl, (PutAt.put (w := w.drewN nq) ⟨h1.1, h1.2⟩ 2 { r with reaped := true } (.bool true) (by omega) rfl).2, ((Keeps.refl _ _).drewN _).set (by simp) _⟩)
          | false =>
            rw [hp] at c9
            have HF := hid (show reapF l id = (⟨r.value, r.home, true, 0⟩, l.set i r.free) by unfold reapF; rw [hi]; simp [HO, hs, hl, hq, hp])
            rw [HF.out]
            clear HF
            clear hi hr HO hid2 htk
            clear hs hl hq hp
            go_enter Tryd.func17, Tryd.ntmps17
            go_wp2_with fail
            refine (of_any b rb l id _ hT h0).mono ?_
            rintro e w' ⟨rfl, rfl⟩
            rw [HI.out]
            unfold rowPtr
            go_wp2_with fail
            go_quiet (fail)
            go_wp2_with fail
            have h2 := PutAt.put (w := w.drewN nq) ⟨h1.1, h1.2⟩ 2 { r with reaped := true } (.bool true) (by omega) rfl
            refine (forget_any b rb _ i { r with reaped := true } _ h2.2 (List.getElem?_set_self h2.1)).mono ?_
            rintro e w' ⟨rfl, hT2, hK2⟩
            go_wp2_with fail
            rw [List.set_set] at hT2
            exact bodyPost_ret (v := .tuple #[.int .u64 r.value, .int .u64 r.home, .bool true, .nilIface]) (by simp [results, Tryd.results17, go_sem]) rfl (⟨_, rfl, rfl, hT2, (((Keeps.refl _ _).drewN _).set (by simp) _).trans hK2⟩)
    · have hs4 : (r.state != 4) = true := by simpa using hs
      have HF := hid (show reapF l id = (⟨0, 0, false, 8⟩, l) by unfold reapF; rw [hi]; simp [HO, hs])
      rw [HF.out]
      clear HF
      clear hi hr HO hid2 htk
      clear hs
      go_enter Tryd.func17, Tryd.ntmps17
      go_wp2_with fail
      refine (of_any b rb l id _ hT h0).mono ?_
      rintro e w' ⟨rfl, rfl⟩
      rw [HI.out]
      unfold rowPtr
      go_wp2_with fail
      refine (tfail_any _ _ _).mono ?_
      rintro e w' ⟨rfl, rfl⟩
      go_wp2_with fail
      exact bodyPost_ret (v := .tuple #[.int .u64 0, .int .u64 0, .bool false, .iface 72 (.pointer (some ⟨w.heap.size, 0, none⟩))]) (by simp [results, Tryd.results17, go_sem]) rfl (reap_fail hT 8 (by decide))

end

/-! ### New -/
def tNew (n : Nat) : List TRow := List.replicate n zrow

theorem zero_rows (n : Nat) : madeCells zrow.cells.toArray (n * 10) = flatA TRow.cells (tNew n) := by
  apply Array.ext_getElem?
  intro k
  by_cases hk : k < n * 10
  · have e : k = k / 10 * 10 + k % 10 := by omega
    have h1 : (flatA TRow.cells (tNew n))[k / 10 * 10 + k % 10]? = zrow.cells[k % 10]? := by
      have := flat_get TRow.cells_length (tNew n) (k / 10) (k % 10) (by omega)
      simp only [flatA, List.getElem?_toArray, this]
      rw [tNew, List.getElem?_replicate, if_pos (by omega)]
      rfl
    rw [← e] at h1
    rw [h1]
    have hz : zrow.cells.toArray.size = 10 := rfl
    unfold madeCells
    rw [Array.getElem?_map, Array.getElem?_range, if_pos hk, hz]
    have hm : k % 10 < zrow.cells.length := by show k % 10 < 10; omega
    show some (zrow.cells.toArray[k % 10]!) = _
    rw [List.getElem!_toArray, List.getElem!_eq_getElem?_getD, List.getElem?_eq_getElem hm]
    rfl
  · rw [Array.getElem?_eq_none (by rw [size_madeCells]; omega), Array.getElem?_eq_none]
    have := flat_length TRow.cells_length (tNew n)
    simp only [flatA, List.size_toArray, this]
    simp only [tNew, List.length_replicate]
    omega

def TNewPost (w : World) (n : Nat) (e : Ending) (w' : World) : Prop := ∃ b rb, e = .returned (.tuple #[.pointer (some ⟨b, 0, none⟩), .nilIface]) ∧ TableAt w' b rb (tNew n) ∧ Keeps [] w w' ∧ w.heap.size ≤ b ∧ w.heap.size ≤ rb

set_option maxHeartbeats 1000000 in
theorem tnew_ok (n : Nat) (w : World) (h1 : 1 ≤ n) (hn : n ≤ 64) : Calls Tryd.prog 9 #[.int .i64 (n : Int)] w (TNewPost w n) := by
  have mk1 : ∀ w : World, (Instr.makeSlice 65 (.int .i64 (n : Int)) (.int .i64 (n : Int))).run Tryd.prog w = .ok (.slice (some ⟨w.heap.size, 0, none⟩) n n) (w.alloc (.cells (flatA TRow.cells (tNew n)) 78)) := by
    intro w
    have h := run_make (P := Tryd.prog) w 65 78 Tryd.t78 (.agg zrow.cells.toArray) Tryd.underlying65 (by kernel_rfl) (by kernel_rfl) .i64 .i64 n n (by omega) (Int.le_refl _) (by show ((64 : Nat) : Int) * n ≤ _; omega) (by omega)
    rw [Int.toNat_natCast] at h
    exact h.trans (by rw [← zero_rows]; rfl)
  have d1 : decide ((n : Int) < 1) = false := by simp; omega
  have d2 : decide ((64 : Int) < (n : Int)) = false := by simp; omega
  go_enter Tryd.func9, Tryd.ntmps9
  go_wp2_with fail
  go_ret2
  refine ⟨w.heap.size + 1, w.heap.size, rfl, ⟨?_, (Blk.fresh_at rfl _ _).alloc _, by omega, by simp [tNew]; omega⟩, ((Keeps.refl _ _).alloc _).alloc _, by omega, by omega⟩
  have : (tNew n).length = n := by simp [tNew]
  rw [this]
  exact Blk.fresh_at (by simp) _ _

theorem tnew_arg (n : Int) (w : World) (h : n < 1 ∨ 64 < n) : Calls Tryd.prog 9 #[.int .i64 n] w fun e w' =>
    e = .returned (.tuple #[.pointer none, .iface 72 (.pointer (some ⟨w.heap.size, 0, none⟩))]) ∧ w.alloc (.cells #[.string tabS, .int .i64 0, .iface 30 (.int .i64 1)] 76) = w' := by
  by_cases h1 : n < 1
  · have d1 : decide (n < 1) = true := by simp; omega
    go_enter Tryd.func9, Tryd.ntmps9
    go_wp2_with fail
    refine (tfail_any _ _ _).mono ?_
    rintro e w' ⟨rfl, rfl⟩
    go_wp2_with fail
    go_ret2
    exact ⟨rfl, rfl⟩
  · have d1 : decide (n < 1) = false := by simp; omega
    have d2 : decide ((64 : Int) < n) = true := by simp; omega
    go_enter Tryd.func9, Tryd.ntmps9
    go_wp2_with fail
    refine (tfail_any _ _ _).mono ?_
    rintro e w' ⟨rfl, rfl⟩
    go_wp2_with fail
    go_ret2
    exact ⟨rfl, rfl⟩

/-! ### Born -/
def bornRow (r : TRow) (i : Nat) (home : Int) : TRow :=
  { r with times := IntKind.u64.wrap (r.times + 1), taken := true, id := IntKind.u64.wrap ((i : Int) + IntKind.u64.wrap (64 * IntKind.u64.wrap (r.times + 1))), state := 1, home := home, value := 0, joiner := 0, loose := false, stepping := false }

def BornPost (w : World) (b rb : Nat) (id : Int) (l' : List TRow) (e : Ending) (w' : World) : Prop := e = .returned (.tuple #[.int .u64 id, .nilIface]) ∧ TableAt w' b rb l' ∧ Keeps [rb] w w'

set_option maxHeartbeats 2000000 in
theorem born_ok (b rb : Nat) (l : List TRow) (i : Nat) (r : TRow) (home : Int) (w : World) (hT : TableAt w b rb l) (hr : l[i]? = some r) (hf : r.taken = false) (hall : ∀ j q, j < i → l[j]? = some q → q.taken = true) :
    Calls Tryd.prog 14 #[.pointer (some ⟨b, 0, none⟩), .int .u64 home] w (BornPost w b rb (bornRow r i home).id (l.set i (bornRow r i home))) := by
  have c0 := hT.1.cell (i := 0) rfl
  have hlen := hT.2.2.2
  have hil : i < l.length := (List.getElem?_eq_some_iff.1 hr).1
  have HA := hid hall
  have HR := hid hr
  have HF := hid hf
  clear hall hr hf
  have f1 := fun j => hT.2.1.frozen j
  have HT := hid hT
  generalize hL : l.length = n at *
  have HL := hid hL
  clear hL
  go_enter Tryd.func14, Tryd.ntmps14
  go_wp2_with fail
  go_loop [13] (fun s => ∃ k : Nat, k ≤ i ∧ s = .int .i64 k) (fun s => (n - (intOf s).toNat))
  case atStart => exact ⟨0, by omega, rfl⟩
  case round =>
    obtain ⟨k, hk, rfl⟩ := hrel
    by_cases hlt : k < i
    · obtain ⟨q, hq⟩ : ∃ q, l[k]? = some q := ⟨_, List.getElem?_eq_getElem (by have := HL.out; omega)⟩
      have ck := hT.cell (j := 1) (v := .bool q.taken) hq (by omega) rfl
      rw [HA.out k q hlt hq] at ck
      have HQ := hid hq
      clear hq
      have hkn : k < n := by omega
      go_wp2_with fail
      go_round
      case rel => exact ⟨k + 1, by omega, by go_num⟩
      case measure => simp [intOf]; omega
    · obtain rfl : k = i := by omega
      have k0 : w.cell? ⟨rb, k * 10, none⟩ = some (.int .u64 r.times) := hT.cell (j := 0) HR.out (by omega) rfl
      have k1 := hT.cell (j := 1) HR.out (by omega) rfl
      have k3 := hT.cell (j := 3) HR.out (by omega) rfl
      have k4 := hT.cell (j := 4) HR.out (by omega) rfl
      have k5 := hT.cell (j := 5) HR.out (by omega) rfl
      have k6 := hT.cell (j := 6) HR.out (by omega) rfl
      have k7 := hT.cell (j := 7) HR.out (by omega) rfl
      have k8 := hT.cell (j := 8) HR.out (by omega) rfl
      have k9 := hT.cell (j := 9) HR.out (by omega) rfl
      rw [HF.out] at k1
      go_wp2_with fail
      go_ret2
      refine ⟨rfl, ?_, ((((((((((Keeps.refl _ _).set (by simp) _).set (by simp) _).set (by simp) _).set (by simp) _).set (by simp) _).set (by simp) _).set (by simp) _).set (by simp) _).set (by simp) _)⟩
      have h0 := (HT.out.start HR.out).put 0 { r with times := IntKind.u64.wrap (r.times + 1) } (.int .u64 (IntKind.u64.wrap (r.times + 1))) (by omega) rfl
      have h1 := h0.put 1 { r with times := IntKind.u64.wrap (r.times + 1), taken := true } (.bool true) (by omega) rfl
      have h3 := h1.put 3 { r with times := IntKind.u64.wrap (r.times + 1), taken := true, id := (bornRow r k home).id } (.int .u64 (bornRow r k home).id) (by omega) rfl
      have h4 := h3.put 4 { r with times := IntKind.u64.wrap (r.times + 1), taken := true, id := (bornRow r k home).id, state := 1 } (.int .i64 1) (by omega) rfl
      have h5 := h4.put 5 { r with times := IntKind.u64.wrap (r.times + 1), taken := true, id := (bornRow r k home).id, state := 1, home := home } (.int .u64 home) (by omega) rfl
      have h6 := h5.put 6 { r with times := IntKind.u64.wrap (r.times + 1), taken := true, id := (bornRow r k home).id, state := 1, home := home, value := 0 } (.int .u64 0) (by omega) rfl
      have h7 := h6.put 7 { r with times := IntKind.u64.wrap (r.times + 1), taken := true, id := (bornRow r k home).id, state := 1, home := home, value := 0, joiner := 0 } (.int .u64 0) (by omega) rfl
      have h8 := h7.put 8 { r with times := IntKind.u64.wrap (r.times + 1), taken := true, id := (bornRow r k home).id, state := 1, home := home, value := 0, joiner := 0, loose := false } (.bool false) (by omega) rfl
      exact (h8.put 9 (bornRow r k home) (.bool false) (by omega) rfl).2

set_option maxHeartbeats 2000000 in
theorem born_full (b rb : Nat) (l : List TRow) (home : Int) (w : World) (hT : TableAt w b rb l) (hall : ∀ (j : Nat) q, l[j]? = some q → q.taken = true) :
    Calls Tryd.prog 14 #[.pointer (some ⟨b, 0, none⟩), .int .u64 home] w fun e w' =>
      e = .returned (.tuple #[.int .u64 0, .iface 72 (.pointer (some ⟨w.heap.size, 0, none⟩))]) ∧ w.alloc (.cells #[.string tabS, .int .i64 0, .iface 30 (.int .i64 3)] 76) = w' := by
  have c0 := hT.1.cell (i := 0) rfl
  have hlen := hT.2.2.2
  have HA := hid hall
  clear hall
  generalize hL : l.length = n at *
  have HL := hid hL
  clear hL
  go_enter Tryd.func14, Tryd.ntmps14
  go_wp2_with fail
  go_loop [13] (fun s => ∃ k : Nat, k ≤ n ∧ s = .int .i64 k) (fun s => (n - (intOf s).toNat))
  case atStart => exact ⟨0, by omega, rfl⟩
  case round =>
    obtain ⟨k, hk, rfl⟩ := hrel
    by_cases hlt : k < n
    · obtain ⟨q, hq⟩ : ∃ q, l[k]? = some q := ⟨_, List.getElem?_eq_getElem (by have := HL.out; omega)⟩
      have ck := hT.cell (j := 1) (v := .bool q.taken) hq (by omega) rfl
      rw [HA.out k q hq] at ck
      clear hq
      go_wp2_with fail
      go_round
      case rel => exact ⟨k + 1, by omega, by go_num⟩
      case measure => simp [intOf]; omega
    · obtain rfl : k = n := by omega
      go_wp2_with fail
      refine (tfail_any _ _ _).mono ?_
      rintro e w' ⟨rfl, rfl⟩
      go_wp2_with fail
      go_ret2
      exact ⟨rfl, rfl⟩
end Go.Proofs.YtghgfopcnaoaiaaDoor
