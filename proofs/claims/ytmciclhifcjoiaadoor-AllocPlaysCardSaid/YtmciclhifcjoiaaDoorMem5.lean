/-
  The package mem: New's error, There; Same of an error of one place; who lost an access.
-/
import Derived.Test.YtmciclhifcjoiaaDoorLaw02
import Derived.Test.YtmciclhifcjoiaaDoorSame
namespace Go.Proofs.YtmciclhifcjoiaaDoor
open Go.RowKit

theorem new_arg (n : Int) (w : World) (h : n < 1 ∨ 65536 < n) : Calls Tryd.prog 14 #[.int .i64 n] w fun e w' =>
    e = .returned (.tuple #[.pointer none, .iface 93 (.pointer (some ⟨w.heap.size, 0, none⟩))]) ∧ w.alloc (.cells #[.string memS, .int .i64 0, .iface 30 (.int .i64 1)] 97) = w' := by
  by_cases h1 : n < 1
  · have d1 : decide (n < 1) = true := by simp; omega
    go_enter Tryd.func14, Tryd.ntmps14
    go_wp2_with fail
    refine (fail_any _ _ _ _).mono ?_
    rintro e w' ⟨rfl, rfl⟩
    go_wp2_with fail
    go_ret2
    exact ⟨rfl, rfl⟩
  · have d1 : decide (n < 1) = false := by simp; omega
    have d2 : decide (65536 < n) = true := by simp; omega
    go_enter Tryd.func14, Tryd.ntmps14
    go_wp2_with fail
    refine (fail_any _ _ _ _).mono ?_
    rintro e w' ⟨rfl, rfl⟩
    go_wp2_with fail
    go_ret2
    exact ⟨rfl, rfl⟩

theorem there_any (b cb wb : Nat) (s : MS) (w : World) (hM : MemAt w b cb wb s) : Calls Tryd.prog 18 #[.pointer (some ⟨b, 0, none⟩)] w fun e w' => e = .returned (.int .i64 s.there) ∧ w = w' := by
  have c2 := hM.1.cell (i := 2) rfl
  generalize s.there = t at *
  go_enter Tryd.func18, Tryd.ntmps18
  go_wp2_with fail
  go_ret
  exact ⟨rfl, rfl⟩

theorem same_one (v u : Value) (l : ByteArray) (n k : Int) (w : World) (hg : GV w) (hE : ErrAt w v [(l, n)] k) (hF : FailAt w u [(l, n)] k) (h1 : 1 ≤ k) (h2 : k ≤ 10) :
    Calls Tryd.prog 15 #[v, u] w fun e w' => e = .returned (.bool true) ∧ Keeps [] w w' :=
  same_any v u (some ([(l, n)], k)) w hg hE ⟨hF, by simp, h1, h2⟩

set_option maxHeartbeats 1000000 in
theorem load_no (b cb wb : Nat) (s : MS) (a : Int) (w : World) (hM : MemAt w b cb wb s) (h0 : 0 ≤ a) (hw : s.width.getD a.toNat 0 = 0) : Calls Tryd.prog 26 #[.pointer (some ⟨b, 0, none⟩), .int .u64 a] w fun e w' =>
    e = .returned (.tuple #[.int .u64 0, .iface 93 (.pointer (some ⟨w.heap.size, 0, none⟩))]) ∧ w.alloc (.cells #[.string memS, .int .i64 (placeI a), .iface 30 (.int .i64 2)] 97) = w' := by
  have H := hid (access_no b cb wb s a 0 0 w hM h0 hw 0)
  go_enter Tryd.func26, Tryd.ntmps26
  go_wp2_with fail
  refine H.out.mono ?_
  rintro e w' ⟨rfl, rfl⟩
  go_wp2_with fail
  go_ret2
  exact ⟨rfl, rfl⟩
end Go.Proofs.YtmciclhifcjoiaaDoor
