/-
  The package mem: accesses of what is not there; Unmap's errors.
-/
import Derived.Test.YtmciclhifcjoiaaDoorRef02d
namespace Go.Proofs.YtmciclhifcjoiaaDoor
open Go.RowKit

section
variable (b cb wb : Nat) (s : MS) (a o v : Int) (w : World) (hM : MemAt w b cb wb s) (h0 : 0 ≤ a) (hw : s.width.getD a.toNat 0 = 0)
include hM h0 hw

set_option maxHeartbeats 1000000 in
theorem store_no : Calls Tryd.prog 24 #[.pointer (some ⟨b, 0, none⟩), .int .u64 a, .int .u64 v] w fun e w' =>
    e = .returned (.iface 93 (.pointer (some ⟨w.heap.size, 0, none⟩))) ∧ w.alloc (.cells #[.string memS, .int .i64 (placeI a), .iface 30 (.int .i64 2)] 97) = w' := by
  have H := hid (access_no b cb wb s a 0 v w hM h0 hw 1)
  go_enter Tryd.func24, Tryd.ntmps24
  go_wp2_with fail
  refine H.out.mono ?_
  rintro e w' ⟨rfl, rfl⟩
  go_wp2_with fail
  go_ret
  exact ⟨rfl, rfl⟩

set_option maxHeartbeats 1000000 in
theorem swap_no : Calls Tryd.prog 52 #[.pointer (some ⟨b, 0, none⟩), .int .u64 a, .int .u64 v] w fun e w' =>
    e = .returned (.tuple #[.int .u64 0, .iface 93 (.pointer (some ⟨w.heap.size, 0, none⟩))]) ∧ w.alloc (.cells #[.string memS, .int .i64 (placeI a), .iface 30 (.int .i64 2)] 97) = w' := by
  have H := hid (access_no b cb wb s a 0 v w hM h0 hw 2)
  go_enter Tryd.func52, Tryd.ntmps52
  go_wp2_with fail
  refine H.out.mono ?_
  rintro e w' ⟨rfl, rfl⟩
  go_wp2_with fail
  go_ret2
  exact ⟨rfl, rfl⟩

set_option maxHeartbeats 1000000 in
theorem add_no : Calls Tryd.prog 53 #[.pointer (some ⟨b, 0, none⟩), .int .u64 a, .int .u64 v] w fun e w' =>
    e = .returned (.tuple #[.int .u64 0, .iface 93 (.pointer (some ⟨w.heap.size, 0, none⟩))]) ∧ w.alloc (.cells #[.string memS, .int .i64 (placeI a), .iface 30 (.int .i64 2)] 97) = w' := by
  have H := hid (access_no b cb wb s a 0 v w hM h0 hw 3)
  go_enter Tryd.func53, Tryd.ntmps53
  go_wp2_with fail
  refine H.out.mono ?_
  rintro e w' ⟨rfl, rfl⟩
  go_wp2_with fail
  go_ret2
  exact ⟨rfl, rfl⟩

set_option maxHeartbeats 1000000 in
theorem cas_no : Calls Tryd.prog 48 #[.pointer (some ⟨b, 0, none⟩), .int .u64 a, .int .u64 o, .int .u64 v] w fun e w' =>
    e = .returned (.tuple #[.int .u64 0, .iface 93 (.pointer (some ⟨w.heap.size, 0, none⟩))]) ∧ w.alloc (.cells #[.string memS, .int .i64 (placeI a), .iface 30 (.int .i64 2)] 97) = w' := by
  have H := hid (access_no b cb wb s a o v w hM h0 hw 4)
  go_enter Tryd.func48, Tryd.ntmps48
  go_wp2_with fail
  refine H.out.mono ?_
  rintro e w' ⟨rfl, rfl⟩
  go_wp2_with fail
  go_ret2
  exact ⟨rfl, rfl⟩
end

section
variable (b : Nat) (a n : Int) (w : World)
theorem unmap_arg (h : n < 1) : Calls Tryd.prog 25 #[.pointer (some ⟨b, 0, none⟩), .int .i64 a, .int .i64 n] w fun e w' =>
    e = .returned (.iface 93 (.pointer (some ⟨w.heap.size, 0, none⟩))) ∧ w.alloc (.cells #[.string memS, .int .i64 0, .iface 30 (.int .i64 1)] 97) = w' := by
  have d1 : decide (n < 1) = true := by simp; omega
  go_enter Tryd.func25, Tryd.ntmps25
  go_wp2_with fail
  refine (fail_any _ _ _ _).mono ?_
  rintro e w' ⟨rfl, rfl⟩
  go_wp2_with fail
  go_ret
  exact ⟨rfl, rfl⟩

theorem unmap_row (h1 : 1 ≤ n) (p : Addr) (w1 : World)
    (hrow : Calls Tryd.prog 49 #[.pointer (some ⟨b, 0, none⟩), .int .i64 a, .int .i64 n, .bool true] w fun e w' => e = .returned (.iface 93 (.pointer (some p))) ∧ w1 = w') :
    Calls Tryd.prog 25 #[.pointer (some ⟨b, 0, none⟩), .int .i64 a, .int .i64 n] w fun e w' => e = .returned (.iface 93 (.pointer (some p))) ∧ w1 = w' := by
  have HR := hid hrow
  clear hrow
  have d1 : decide (n < 1) = false := by simp; omega
  go_enter Tryd.func25, Tryd.ntmps25
  go_wp2_with fail
  refine HR.out.mono ?_
  rintro e w' ⟨rfl, rfl⟩
  go_wp2_with fail
  go_ret
  exact ⟨rfl, rfl⟩

theorem runmap_arg (h : n < 1) : Calls Tryd.prog 41 #[.pointer (some ⟨b, 0, none⟩), .int .i64 a, .int .i64 n] w (NoPost w memS 0 1) := by
  have d1 : decide (n < 1) = true := by simp; omega
  go_enter Tryd.func41, Tryd.ntmps41
  go_wp2_with fail
  refine (no_any memS 0 1 _).mono ?_
  rintro e w' ⟨u, rfl, hF, hK⟩
  go_wp2_with fail
  go_ret
  exact ⟨u, rfl, hF, hK⟩

theorem runmap_addr (wb hb : Nat) (s : MS) (hM : RefAt w b wb hb s) (h1 : 1 ≤ n) (ha : a ≤ 9223372036854775807) (hno : ¬ (0 ≤ a ∧ a + n ≤ s.width.length)) : Calls Tryd.prog 41 #[.pointer (some ⟨b, 0, none⟩), .int .i64 a, .int .i64 n] w (NoPost w memS a 2) := by
  have d1 : decide (n < 1) = false := by simp; omega
  have HD := hid (show decide (0 ≤ a ∧ a + n ≤ s.width.length) = false by simpa using hno)
  clear hno
  go_enter Tryd.func41, Tryd.ntmps41
  go_wp2_with fail
  refine (rin_any b wb hb s a n _ hM h1 ha).mono ?_
  rintro e w' ⟨rfl, rfl⟩
  rw [HD.out]
  go_wp2_with fail
  refine (no_any memS a 2 _).mono ?_
  rintro e w' ⟨u, rfl, hF, hK⟩
  go_wp2_with fail
  go_ret
  exact ⟨u, rfl, hF, hK⟩
end
end Go.Proofs.YtmciclhifcjoiaaDoor
