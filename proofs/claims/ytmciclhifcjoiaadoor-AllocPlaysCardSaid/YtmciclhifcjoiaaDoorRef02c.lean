/-
  The document's memory: New, Map.
-/
import Derived.Test.YtmciclhifcjoiaaDoorRef02b
namespace Go.Proofs.YtmciclhifcjoiaaDoor
open Go.RowKit

def RNewPost (w : World) (n : Nat) (e : Ending) (w' : World) : Prop := ∃ b wb hb, e = .returned (.tuple #[.pointer (some ⟨b, 0, none⟩), .pointer none]) ∧ RefAt w' b wb hb (MS.new n) ∧ Keeps [] w w' ∧
  w.heap.size ≤ b ∧ w.heap.size ≤ wb ∧ w.heap.size ≤ hb

theorem rnew_blocks {w : World} {b wb hb n : Nat} (hn : n ≤ 65536) (h0 : Blk w b #[.slice (some ⟨wb, 0, none⟩) n n, .slice (some ⟨hb, 0, none⟩) n n, .int .i64 0] 102)
    (h1 : Blk w wb (ints .i64 (List.replicate n 0)) 3) (h2 : Blk w hb (ints .u64 (List.replicate n 0)) 35) (hbc : b ≠ wb) (hbw : b ≠ hb) (hcw : wb ≠ hb) : RefAt w b wb hb (MS.new n) := by
  refine ⟨?_, h1, h2, hbc, hbw, hcw, ?_, ?_, ?_⟩
  · simpa [MS.new] using h0
  · simp [MS.new]
  · simpa [MS.new] using hn
  · intro x hx
    simp [MS.new] at hx
    exact .inl hx.2

set_option maxHeartbeats 1000000 in
theorem rnew_ok (n : Nat) (w : World) (h1 : 1 ≤ n) (hn : n ≤ 65536) :
    Calls Tryd.prog 27 #[.int .i64 (n : Int)] w (RNewPost w n) := by
  have mk1 : ∀ w : World, (Instr.makeSlice 55 (.int .i64 (n : Int)) (.int .i64 (n : Int))).run Tryd.prog w = .ok (.slice (some ⟨w.heap.size, 0, none⟩) n n) (w.alloc (.cells (ints .i64 (List.replicate n 0)) 3)) := by
    intro w
    have h := run_make (P := Tryd.prog) w 55 3 Tryd.t3 (.int .i64 0) Tryd.underlying55 (by kernel_rfl) (by kernel_rfl) .i64 .i64 n n (by omega) (Int.le_refl _) (by show ((8 : Nat) : Int) * n ≤ _; omega) (by omega)
    rw [Int.toNat_natCast] at h
    exact h.trans (by rw [← made_ints]; rfl)
  have mk2 : ∀ w : World, (Instr.makeSlice 85 (.int .i64 (n : Int)) (.int .i64 (n : Int))).run Tryd.prog w = .ok (.slice (some ⟨w.heap.size, 0, none⟩) n n) (w.alloc (.cells (ints .u64 (List.replicate n 0)) 35)) := by
    intro w
    have h := run_make (P := Tryd.prog) w 85 35 Tryd.t35 (.int .u64 0) Tryd.underlying85 (by kernel_rfl) (by kernel_rfl) .i64 .i64 n n (by omega) (Int.le_refl _) (by show ((8 : Nat) : Int) * n ≤ _; omega) (by omega)
    rw [Int.toNat_natCast] at h
    exact h.trans (by rw [← made_ints]; rfl)
  have d1 : decide ((n : Int) < 1) = false := by simp; omega
  have d2 : decide ((65536 : Int) < (n : Int)) = false := by simp; omega
  go_enter Tryd.func27, Tryd.ntmps27
  go_wp2_with fail
  go_region
  all_goals go_wp2
  all_goals go_ret2
  · exact ⟨w.heap.size + 2, w.heap.size, w.heap.size + 1, rfl, rnew_blocks hn (Blk.fresh_at (by simp) _ _) (((Blk.fresh_at rfl _ _).alloc _).alloc _) ((Blk.fresh_at (by simp) _ _).alloc _) (by omega) (by omega) (by omega),
      ((((Keeps.refl _ _).alloc _).alloc _).alloc _).drew, by omega, by omega, by omega⟩
  · exact ⟨w.heap.size + 2, w.heap.size + 1, w.heap.size, rfl, rnew_blocks hn (Blk.fresh_at (by simp) _ _) ((Blk.fresh_at (by simp) _ _).alloc _) (((Blk.fresh_at rfl _ _).alloc _).alloc _) (by omega) (by omega) (by omega),
      ((((Keeps.refl _ _).alloc _).alloc _).alloc _).drew, by omega, by omega, by omega⟩

section
variable (b wb hb : Nat) (s : MS) (a n : Int) (w : World) (hM : RefAt w b wb hb s)

theorem rmap_arg (v : Int) (h : n < 1 ∨ (v ≠ 64 ∧ v ≠ 32)) : Calls Tryd.prog 30 #[.pointer (some ⟨b, 0, none⟩), .int .i64 a, .int .i64 n, .int .i64 v] w (NoPost w memS 0 1) := by
  by_cases h1 : n < 1
  · have d1 : decide (n < 1) = true := by simp; omega
    go_enter Tryd.func30, Tryd.ntmps30
    go_wp2_with fail
    refine (no_any memS 0 1 _).mono ?_
    rintro e w' ⟨u, rfl, hF, hK⟩
    go_wp2_with fail
    go_ret
    exact ⟨u, rfl, hF, hK⟩
  · have h2 := h.resolve_left h1
    have d1 : decide (n < 1) = false := by simp; omega
    have d2 : (v != 64) = true := by simpa using h2.1
    have d3 : (v != 32) = true := by simpa using h2.2
    go_enter Tryd.func30, Tryd.ntmps30
    go_wp2_with fail
    refine (no_any memS 0 1 _).mono ?_
    rintro e w' ⟨u, rfl, hF, hK⟩
    go_wp2_with fail
    go_ret
    exact ⟨u, rfl, hF, hK⟩

include hM in
theorem rmap_addr (v : Int) (h1 : 1 ≤ n) (ha : a ≤ 9223372036854775807) (hv : v = 32 ∨ v = 64) (hno : ¬ (0 ≤ a ∧ a + n ≤ s.width.length)) : Calls Tryd.prog 30 #[.pointer (some ⟨b, 0, none⟩), .int .i64 a, .int .i64 n, .int .i64 v] w (NoPost w memS a 2) := by
  have d1 : decide (n < 1) = false := by simp; omega
  have HD := hid (show decide (0 ≤ a ∧ a + n ≤ s.width.length) = false by simpa using hno)
  clear hno
  rcases hv with rfl | rfl
  all_goals
    go_enter Tryd.func30, Tryd.ntmps30
    go_wp2_with fail
    refine (rin_any b wb hb s a n _ hM h1 ha).mono ?_
    rintro e w' ⟨rfl, rfl⟩
    rw [HD.out]
    go_wp2_with fail
    refine (no_any memS a 2 _).mono ?_
    rintro e w' ⟨u, rfl, hF, hK⟩
    go_wp2_with fail
    go_ret
    exact ⟨u, rfl, hF, hK⟩
end
end Go.Proofs.YtmciclhifcjoiaaDoor
