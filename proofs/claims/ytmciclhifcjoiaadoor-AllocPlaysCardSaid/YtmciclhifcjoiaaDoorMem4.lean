/-
  The package mem: New; Map's and Unmap's errors.
-/
import Derived.Test.YtmciclhifcjoiaaDoorMem3
namespace Go.Proofs.YtmciclhifcjoiaaDoor
open Go.RowKit

def MS.new (n : Nat) : MS := ⟨List.replicate n 0, List.replicate n 0, 0, 0⟩

def NewPost (w : World) (n : Nat) (e : Ending) (w' : World) : Prop := ∃ b cb wb, e = .returned (.tuple #[.pointer (some ⟨b, 0, none⟩), .nilIface]) ∧ MemAt w' b cb wb (MS.new n) ∧ Keeps [] w w' ∧
  w.heap.size ≤ b ∧ w.heap.size ≤ cb ∧ w.heap.size ≤ wb

theorem made_ints (k : IntKind) (n : Nat) : madeCells (Value.int k 0).cells (n * 1) = ints k (List.replicate n 0) := by
  apply Array.ext
  · simp [madeCells, ints]
  · intro i h1 h2
    simp [madeCells, ints, Value.cells, Nat.mod_one]

theorem new_blocks {w : World} {b cb wb n : Nat} (hn : n ≤ 65536) (h0 : Blk w b #[.slice (some ⟨cb, 0, none⟩) n n, .slice (some ⟨wb, 0, none⟩) n n, .int .i64 0, .int .i64 0] 88)
    (h1 : Blk w cb (ints .u64 (List.replicate n 0)) 35) (h2 : Blk w wb (ints .u8 (List.replicate n 0)) 5) (hbc : b ≠ cb) (hbw : b ≠ wb) (hcw : cb ≠ wb) : MemAt w b cb wb (MS.new n) := by
  refine ⟨?_, h1, h2, hbc, hbw, hcw, ?_, ?_, ?_⟩
  · simpa [MS.new] using h0
  · simp [MS.new]
  · simpa [MS.new] using hn
  · intro x hx
    simp [MS.new] at hx
    exact .inl hx.2

set_option maxHeartbeats 1000000 in
theorem new_ok (n : Nat) (w : World) (h1 : 1 ≤ n) (hn : n ≤ 65536) :
    Calls Tryd.prog 14 #[.int .i64 (n : Int)] w (NewPost w n) := by
  have mk1 : ∀ w : World, (Instr.makeSlice 85 (.int .i64 (n : Int)) (.int .i64 (n : Int))).run Tryd.prog w = .ok (.slice (some ⟨w.heap.size, 0, none⟩) n n) (w.alloc (.cells (ints .u64 (List.replicate n 0)) 35)) := by
    intro w
    have h := run_make (P := Tryd.prog) w 85 35 Tryd.t35 (.int .u64 0) Tryd.underlying85 (by kernel_rfl) (by kernel_rfl) .i64 .i64 n n (by omega) (Int.le_refl _) (by show ((8 : Nat) : Int) * n ≤ _; omega) (by omega)
    rw [Int.toNat_natCast] at h
    exact h.trans (by rw [← made_ints]; rfl)
  have mk2 : ∀ w : World, (Instr.makeSlice 86 (.int .i64 (n : Int)) (.int .i64 (n : Int))).run Tryd.prog w = .ok (.slice (some ⟨w.heap.size, 0, none⟩) n n) (w.alloc (.cells (ints .u8 (List.replicate n 0)) 5)) := by
    intro w
    have h := run_make (P := Tryd.prog) w 86 5 Tryd.t5 (.int .u8 0) Tryd.underlying86 (by kernel_rfl) (by kernel_rfl) .i64 .i64 n n (by omega) (Int.le_refl _) (by show ((1 : Nat) : Int) * n ≤ _; omega) (by omega)
    rw [Int.toNat_natCast] at h
    exact h.trans (by rw [← made_ints]; rfl)
  have d1 : decide ((n : Int) < 1) = false := by simp; omega
  have d2 : decide ((65536 : Int) < (n : Int)) = false := by simp; omega
  go_enter Tryd.func14, Tryd.ntmps14
  go_wp2_with fail
  go_region
  all_goals go_wp2
  all_goals go_ret2
  · exact ⟨w.heap.size + 2, w.heap.size, w.heap.size + 1, rfl, new_blocks hn (Blk.fresh_at (by simp) _ _) (((Blk.fresh_at rfl _ _).alloc _).alloc _) ((Blk.fresh_at (by simp) _ _).alloc _) (by omega) (by omega) (by omega),
      ((((Keeps.refl _ _).alloc _).alloc _).alloc _).drew, by omega, by omega, by omega⟩
  · exact ⟨w.heap.size + 2, w.heap.size + 1, w.heap.size, rfl, new_blocks hn (Blk.fresh_at (by simp) _ _) ((Blk.fresh_at (by simp) _ _).alloc _) (((Blk.fresh_at rfl _ _).alloc _).alloc _) (by omega) (by omega) (by omega),
      ((((Keeps.refl _ _).alloc _).alloc _).alloc _).drew, by omega, by omega, by omega⟩

section
variable (b cb wb : Nat) (s : MS) (a n : Int) (w : World) (hM : MemAt w b cb wb s)

theorem map_arg (v : Int) (h : n < 1 ∨ (v ≠ 32 ∧ v ≠ 64)) : Calls Tryd.prog 20 #[.pointer (some ⟨b, 0, none⟩), .int .i64 a, .int .i64 n, .int .i64 v] w fun e w' =>
    e = .returned (.iface 93 (.pointer (some ⟨w.heap.size, 0, none⟩))) ∧ w.alloc (.cells #[.string memS, .int .i64 0, .iface 30 (.int .i64 1)] 97) = w' := by
  by_cases h1 : n < 1
  · have d1 : decide (n < 1) = true := by simp; omega
    go_enter Tryd.func20, Tryd.ntmps20
    go_wp2_with fail
    refine (fail_any _ _ _ _).mono ?_
    rintro e w' ⟨rfl, rfl⟩
    go_wp2_with fail
    go_ret
    exact ⟨rfl, rfl⟩
  · have h2 := h.resolve_left h1
    have d1 : decide (n < 1) = false := by simp; omega
    have d2 : (v != 32) = true := by simpa using h2.1
    have d3 : (v != 64) = true := by simpa using h2.2
    go_enter Tryd.func20, Tryd.ntmps20
    go_wp2_with fail
    refine (fail_any _ _ _ _).mono ?_
    rintro e w' ⟨rfl, rfl⟩
    go_wp2_with fail
    go_ret
    exact ⟨rfl, rfl⟩

theorem map_row (v : Int) (h1 : 1 ≤ n) (hv : v = 32 ∨ v = 64) (p : Addr) (w1 : World)
    (hrow : Calls Tryd.prog 49 #[.pointer (some ⟨b, 0, none⟩), .int .i64 a, .int .i64 n, .bool false] w fun e w' => e = .returned (.iface 93 (.pointer (some p))) ∧ w1 = w') :
    Calls Tryd.prog 20 #[.pointer (some ⟨b, 0, none⟩), .int .i64 a, .int .i64 n, .int .i64 v] w fun e w' => e = .returned (.iface 93 (.pointer (some p))) ∧ w1 = w' := by
  have HR := hid hrow
  clear hrow
  have d1 : decide (n < 1) = false := by simp; omega
  rcases hv with rfl | rfl
  all_goals
    go_enter Tryd.func20, Tryd.ntmps20
    go_wp2_with fail
    refine HR.out.mono ?_
    rintro e w' ⟨rfl, rfl⟩
    go_wp2_with fail
    go_ret
    exact ⟨rfl, rfl⟩
end

end Go.Proofs.YtmciclhifcjoiaaDoor
