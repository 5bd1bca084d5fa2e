/-
  The package mem: an access that hits no cell; the methods Load, Store, Swap, Add, Cas, Count; row.
-/
import Derived.Test.YtmciclhifcjoiaaDoorMem1
namespace Go.Proofs.YtmciclhifcjoiaaDoor
open Go.RowKit

/-- The place that an error of an access tells. -/
def placeI (a : Int) : Int := if a ≤ 4611686018427387904 then a else 0

section
variable (b cb wb : Nat) (s : MS) (a o v : Int) (w : World) (hM : MemAt w b cb wb s) (h0 : 0 ≤ a) (hw : s.width.getD a.toNat 0 = 0)
include hM h0 hw
set_option maxHeartbeats 1000000 in
theorem access_no (k : Int) : Calls Tryd.prog 50 #[.pointer (some ⟨b, 0, none⟩), .int .i64 k, .int .u64 a, .int .u64 o, .int .u64 v] w fun e w' =>
      e = .returned (.tuple #[.int .u64 0, .iface 93 (.pointer (some ⟨w.heap.size, 0, none⟩))]) ∧ w.alloc (.cells #[.string memS, .int .i64 (placeI a), .iface 30 (.int .i64 2)] 97) = w' := by
  have HK := hid hw
  clear hw
  by_cases hp : a ≤ 4611686018427387904
  · have HP := hid (show placeI a = a by simp [placeI, hp])
    rw [HP.out]
    go_enter Tryd.func50, Tryd.ntmps50
    go_wp2_with fail
    refine (width_any b cb wb s a _ hM h0).mono ?_
    rintro e w' ⟨rfl, rfl⟩
    rw [HK.out]
    go_wp2_with fail
    refine (fail_any _ _ _ _).mono ?_
    rintro e w' ⟨rfl, rfl⟩
    go_wp2_with fail
    go_ret2
    exact ⟨rfl, rfl⟩
  · have HP := hid (show placeI a = 0 by simp [placeI, hp])
    rw [HP.out]
    go_enter Tryd.func50, Tryd.ntmps50
    go_wp2_with fail
    refine (width_any b cb wb s a _ hM h0).mono ?_
    rintro e w' ⟨rfl, rfl⟩
    rw [HK.out]
    go_wp2_with fail
    refine (fail_any _ _ _ _).mono ?_
    rintro e w' ⟨rfl, rfl⟩
    go_wp2_with fail
    go_ret2
    exact ⟨rfl, rfl⟩
end

section
variable (b cb wb : Nat) (s : MS) (a o v : Int) (w : World) (hM : MemAt w b cb wb s) (h0 : 0 ≤ a) (hw : s.width.getD a.toNat 0 ≠ 0)
include hM h0 hw

set_option maxHeartbeats 400000 in
theorem load_ok : Calls Tryd.prog 26 #[.pointer (some ⟨b, 0, none⟩), .int .u64 a] w fun e w' =>
      e = .returned (.tuple #[.int .u64 (s.hold.getD a.toNat 0), .nilIface]) ∧ MemAt w' b cb wb s.tick ∧ Keeps [b, cb] w w' := by
  go_enter Tryd.func26, Tryd.ntmps26
  go_wp2_with fail
  refine (access_load b cb wb s a 0 0 _ hM h0 hw).mono ?_
  rintro e w' ⟨rfl, hM', hK⟩
  go_wp2_with fail
  go_ret2
  exact ⟨rfl, by rw [← MS.acc_load s a 0 0]; exact hM', hK⟩

set_option maxHeartbeats 400000 in
theorem store_ok : Calls Tryd.prog 24 #[.pointer (some ⟨b, 0, none⟩), .int .u64 a, .int .u64 v] w fun e w' =>
      e = .returned .nilIface ∧ MemAt w' b cb wb (s.put a.toNat (cutI (s.width.getD a.toNat 0) v)) ∧ Keeps [b, cb] w w' := by
  go_enter Tryd.func24, Tryd.ntmps24
  go_wp2_with fail
  refine (access_store b cb wb s a 0 v _ hM h0 hw).mono ?_
  rintro e w' ⟨rfl, hM', hK⟩
  go_wp2_with fail
  go_ret
  exact ⟨rfl, by rw [← MS.acc_store s a 0 v]; exact hM', hK⟩

set_option maxHeartbeats 400000 in
theorem swap_ok : Calls Tryd.prog 52 #[.pointer (some ⟨b, 0, none⟩), .int .u64 a, .int .u64 v] w fun e w' =>
      e = .returned (.tuple #[.int .u64 (s.hold.getD a.toNat 0), .nilIface]) ∧ MemAt w' b cb wb (s.put a.toNat (cutI (s.width.getD a.toNat 0) v)) ∧ Keeps [b, cb] w w' := by
  go_enter Tryd.func52, Tryd.ntmps52
  go_wp2_with fail
  refine (access_swap b cb wb s a 0 v _ hM h0 hw).mono ?_
  rintro e w' ⟨rfl, hM', hK⟩
  go_wp2_with fail
  go_ret2
  exact ⟨rfl, by rw [← MS.acc_swap s a 0 v]; exact hM', hK⟩

set_option maxHeartbeats 400000 in
theorem add_ok : Calls Tryd.prog 53 #[.pointer (some ⟨b, 0, none⟩), .int .u64 a, .int .u64 v] w fun e w' =>
      e = .returned (.tuple #[.int .u64 (s.hold.getD a.toNat 0), .nilIface]) ∧ MemAt w' b cb wb (s.put a.toNat (sumI (s.width.getD a.toNat 0) (s.hold.getD a.toNat 0) v)) ∧ Keeps [b, cb] w w' := by
  go_enter Tryd.func53, Tryd.ntmps53
  go_wp2_with fail
  refine (access_add b cb wb s a 0 v _ hM h0 hw).mono ?_
  rintro e w' ⟨rfl, hM', hK⟩
  go_wp2_with fail
  go_ret2
  exact ⟨rfl, by rw [← MS.acc_add s a 0 v]; exact hM', hK⟩

set_option maxHeartbeats 400000 in
theorem cas_ok : Calls Tryd.prog 48 #[.pointer (some ⟨b, 0, none⟩), .int .u64 a, .int .u64 o, .int .u64 v] w fun e w' =>
      e = .returned (.tuple #[.int .u64 (s.hold.getD a.toNat 0), .nilIface]) ∧ MemAt w' b cb wb (s.acc 4 a o v) ∧ Keeps [b, cb] w w' := by
  go_enter Tryd.func48, Tryd.ntmps48
  go_wp2_with fail
  refine (access_cas b cb wb s a o v _ hM h0 hw).mono ?_
  rintro e w' ⟨rfl, hM', hK⟩
  go_wp2_with fail
  go_ret2
  exact ⟨rfl, hM', hK⟩
end

set_option maxHeartbeats 400000 in
theorem count_any (b cb wb : Nat) (s : MS) (w : World) (hM : MemAt w b cb wb s) : Calls Tryd.prog 19 #[.pointer (some ⟨b, 0, none⟩)] w fun e w' => e = .returned (.int .i64 s.count) ∧ w = w' := by
  have hc3 := hM.1.cell (i := 3) rfl
  go_enter Tryd.func19, Tryd.ntmps19
  go_wp2
  go_ret
  exact ⟨rfl, rfl⟩

section
variable (b cb wb : Nat) (s : MS) (a n : Int) (t : Bool) (w : World) (hM : MemAt w b cb wb s) (h0 : 0 ≤ a) (hn : 0 ≤ n) (hin : a + n ≤ s.width.length)

/-- The cells from a to a + k - 1 are all there, or none of them. -/
def allAre (l : List Int) (t : Bool) (a : Int) (k : Nat) : Prop := ∀ i, i < k → (l.getD (a.toNat + i) 0 != 0) = t

include hM h0 hn hin in
set_option maxHeartbeats 1000000 in
theorem row_ok (hall : allAre s.width t a n.toNat) : Calls Tryd.prog 49 #[.pointer (some ⟨b, 0, none⟩), .int .i64 a, .int .i64 n, .bool t] w fun e w' => e = .returned .nilIface ∧ w = w' := by
  have hok := hM.2.2.2.2.2.2
  have hm := hok.most
  have hc0 := hM.1.cell (i := 0) rfl
  have hc1 := hM.1.cell (i := 1) rfl
  have HW := hid hM.2.2.1
  have HA := hid hall
  clear hall
  generalize hL : s.width.length = len at *
  have HL := hid hL
  clear hL
  have d1 : decide (a < 0) = false := by simp; omega
  have d2 : decide ((len : Int) - a < n) = false := by simp; omega
  go_enter Tryd.func49, Tryd.ntmps49
  go_wp2
  go_loop [9] (fun i => ∃ k : Nat, (k : Int) ≤ n ∧ i = .int .i64 (a + k)) (fun i => (a + n - intOf i).toNat)
  case atStart => exact ⟨0, by omega, by simp⟩
  case round =>
    obtain ⟨k, hk, rfl⟩ := hrel
    by_cases hlt : (k : Int) < n
    · have hb : (a + k).toNat < s.width.length := by have := HL.out; omega
      have hx := HW.out.cell (ints_get hb)
      have hq : (s.width.getD (a + k).toNat 0 != 0) = t := by rw [show (a + (k : Int)).toNat = a.toNat + k by omega]; exact HA.out k (by omega)
      generalize s.width.getD (a + k).toNat 0 = x at *
      subst hq
      have hr : a + (k : Int) < a + n := by omega
      go_wp2
      go_round
      case rel => exact ⟨k + 1, by omega, by go_num⟩
      case measure => simp [intOf]; omega
    · go_wp2
      go_ret
      exact ⟨rfl, rfl⟩

include hM h0 hn hin in
set_option maxHeartbeats 1000000 in
theorem row_block (j : Nat) (hj : (j : Int) < n) (hall : allAre s.width t a j) (hbad : (s.width.getD (a.toNat + j) 0 != 0) ≠ t) : Calls Tryd.prog 49 #[.pointer (some ⟨b, 0, none⟩), .int .i64 a, .int .i64 n, .bool t] w fun e w' =>
    e = .returned (.iface 93 (.pointer (some ⟨w.heap.size, 0, none⟩))) ∧ w.alloc (.cells #[.string memS, .int .i64 (a + j), .iface 30 (.int .i64 4)] 97) = w' := by
  have hok := hM.2.2.2.2.2.2
  have hm := hok.most
  have hc0 := hM.1.cell (i := 0) rfl
  have hc1 := hM.1.cell (i := 1) rfl
  have HW := hid hM.2.2.1
  have HA := hid hall
  have HB := hid hbad
  clear hall hbad
  generalize hL : s.width.length = len at *
  have HL := hid hL
  clear hL
  have d1 : decide (a < 0) = false := by simp; omega
  have d2 : decide ((len : Int) - a < n) = false := by simp; omega
  go_enter Tryd.func49, Tryd.ntmps49
  go_wp2
  go_loop [9] (fun i => ∃ k : Nat, k ≤ j ∧ i = .int .i64 (a + k)) (fun i => (a + n - intOf i).toNat)
  case atStart => exact ⟨0, by omega, by simp⟩
  case round =>
    obtain ⟨k, hk, rfl⟩ := hrel
    have hb : (a + k).toNat < s.width.length := by have := HL.out; omega
    have hx := HW.out.cell (ints_get hb)
    have hr : a + (k : Int) < a + n := by omega
    by_cases hlt : k < j
    · have hq : (s.width.getD (a + k).toNat 0 != 0) = t := by rw [show (a + (k : Int)).toNat = a.toNat + k by omega]; exact HA.out k (by omega)
      generalize s.width.getD (a + k).toNat 0 = x at *
      subst hq
      go_wp2
      go_round
      case rel => exact ⟨k + 1, by omega, by go_num⟩
      case measure => simp [intOf]; omega
    · obtain rfl : k = j := by omega
      have hq : (s.width.getD (a + k).toNat 0 != 0) = !t := by
        rw [show (a + (k : Int)).toNat = a.toNat + k by omega]
        have h := HB.out
        generalize (s.width.getD (a.toNat + k) 0 != 0) = y at h ⊢
        cases y <;> cases t <;> simp_all
      generalize s.width.getD (a + k).toNat 0 = x at *
      have hq2 : ((x != 0) != t) = true := by rw [hq]; cases t <;> rfl
      go_wp2_with fail
      refine (fail_any _ _ _ _).mono ?_
      rintro e w' ⟨rfl, rfl⟩
      go_wp2_with fail
      go_ret
      exact ⟨rfl, rfl⟩
end

set_option maxHeartbeats 1000000 in
theorem row_addr (b cb wb : Nat) (s : MS) (a n : Int) (t : Bool) (w : World) (hM : MemAt w b cb wb s) (ha : a ≤ 9223372036854775807) (hno : a < 0 ∨ (s.width.length : Int) - a < n) : Calls Tryd.prog 49 #[.pointer (some ⟨b, 0, none⟩), .int .i64 a, .int .i64 n, .bool t] w fun e w' =>
    e = .returned (.iface 93 (.pointer (some ⟨w.heap.size, 0, none⟩))) ∧ w.alloc (.cells #[.string memS, .int .i64 a, .iface 30 (.int .i64 2)] 97) = w' := by
  have hok := hM.2.2.2.2.2.2
  have hm := hok.most
  have hc0 := hM.1.cell (i := 0) rfl
  by_cases h0 : a < 0
  · have d1 : decide (a < 0) = true := by simp; omega
    go_enter Tryd.func49, Tryd.ntmps49
    go_wp2_with fail
    refine (fail_any _ _ _ _).mono ?_
    rintro e w' ⟨rfl, rfl⟩
    go_wp2_with fail
    go_ret
    exact ⟨rfl, rfl⟩
  · generalize s.width.length = len at *
    have d1 : decide (a < 0) = false := by simp; omega
    have d2 : decide ((len : Int) - a < n) = true := by simp; omega
    go_enter Tryd.func49, Tryd.ntmps49
    go_wp2_with fail
    refine (fail_any _ _ _ _).mono ?_
    rintro e w' ⟨rfl, rfl⟩
    go_wp2_with fail
    go_ret
    exact ⟨rfl, rfl⟩
end Go.Proofs.YtmciclhifcjoiaaDoor
