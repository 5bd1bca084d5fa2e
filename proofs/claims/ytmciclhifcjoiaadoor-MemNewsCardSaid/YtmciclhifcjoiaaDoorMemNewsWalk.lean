/-
  MemNews: the walk of the statement's own function.
-/
import Derived.Test.YtmciclhifcjoiaaDoorMem5
import Derived.Test.YtmciclhifcjoiaaDoorRowIn
namespace Go.Proofs.YtmciclhifcjoiaaDoor
open Go.RowKit

/-- A memory of q + 1 cells, the last of them there and narrow. -/
def lastOne (q : Nat) : MS := (MS.new (q + 1)).map q 1 32
theorem lastOne_len (q : Nat) : (lastOne q).width.length = q + 1 := by
  unfold lastOne MS.map MS.part MS.new
  simp [fill_length]
theorem lastOne_width (q : Nat) : (lastOne q).width.getD (q : Int).toNat 0 = 32 := by
  show (fill (List.replicate (q + 1) 0) (q : Int).toNat 32 1).getD (q : Int).toNat 0 = 32
  rw [fill_get, if_pos (by simp)]
theorem lastOne_there (q : Nat) : (lastOne q).there = 1 := by
  show wrap64 (0 + 1) = 1
  kernel_rfl

set_option maxHeartbeats 1000000 in
theorem memNews_out (m : Int) (w : World) (hg : GV w) (h : m < 1 ∨ 65536 < m) : Calls Tryd.prog 3 #[.int .i64 m] w fun e w' => e = .returned (.bool true) ∧ Below w.heap.size w w' := by
  have hE := ErrAt.fresh w memS 0 1
  have hK := (Keeps.refl [] w).alloc (.cells #[.string memS, .int .i64 0, .iface 30 (.int .i64 1)] 97)
  have HG := hid hg
  have d2 : ∃ q, decide (m < 1) = q := ⟨_, rfl⟩
  obtain ⟨q, hq⟩ := d2
  go_enter Tryd.func3, Tryd.ntmps3
  go_wp2_with fail
  refine (new_arg m _ h).mono ?_
  rintro e w1 ⟨rfl, rfl⟩
  generalize (w.alloc (.cells #[.string memS, .int .i64 0, .iface 30 (.int .i64 1)] 97)) = w1 at *
  have d3 : q = false → decide (65536 < m) = true := by intro e; subst e; simp at hq ⊢; omega
  cases q with
  | true =>
    clear d3
    go_wp2_with fail
    refine (no_any memS 0 1 _).mono ?_
    rintro e w2 ⟨u, rfl, hF2, hK2⟩
    go_wp2_with fail
    refine (same_one _ u memS 0 1 _ ((HG.out.keeps hK (by simp)).keeps hK2 (by simp)) (hE.keeps hK2) hF2 (by omega) (by omega)).mono ?_
    rintro e w3 ⟨rfl, hK3⟩
    go_wp2_with fail
    refine (awake_any _).mono ?_
    rintro e w4 ⟨rfl, hK4⟩
    go_wp2_with fail
    go_ret
    exact ⟨rfl, (((hK.trans hK2).trans hK3).trans hK4).below (Nat.le_refl _) (by simp)⟩
  | false =>
    have d3 := d3 rfl
    go_wp2_with fail
    refine (no_any memS 0 1 _).mono ?_
    rintro e w2 ⟨u, rfl, hF2, hK2⟩
    go_wp2_with fail
    refine (same_one _ u memS 0 1 _ ((HG.out.keeps hK (by simp)).keeps hK2 (by simp)) (hE.keeps hK2) hF2 (by omega) (by omega)).mono ?_
    rintro e w3 ⟨rfl, hK3⟩
    go_wp2_with fail
    refine (awake_any _).mono ?_
    rintro e w4 ⟨rfl, hK4⟩
    go_wp2_with fail
    go_ret
    exact ⟨rfl, (((hK.trans hK2).trans hK3).trans hK4).below (Nat.le_refl _) (by simp)⟩

set_option maxRecDepth 100000 in
set_option maxHeartbeats 1000000 in
theorem memNews_in (q : Nat) (w : World) (hg : GV w) (h2 : q < 65536) : Calls Tryd.prog 3 #[.int .i64 ((q : Int) + 1)] w fun e w' => e = .returned (.bool true) ∧ Below w.heap.size w w' := by
  have HG := hid hg
  have d1 : decide ((q : Int) + 1 < 1) = false := by simp; omega
  have d2 : decide (65536 < (q : Int) + 1) = false := by simp; omega
  go_enter Tryd.func3, Tryd.ntmps3
  go_wp2_with fail
  refine (new_ok (q + 1) _ (by omega) (by omega)).mono ?_
  rintro e w1 ⟨b, cb, wb, rfl, hM, hK, hb, hcb, hwb⟩
  have hx : ∀ x, x ∈ [b, cb, wb] → x ∈ ([] : List Nat) ∨ w.heap.size ≤ x := by intro x hx; simp at hx; omega
  have HX := hid hx
  clear hx
  go_wp2_with fail
  refine (there_any b cb wb _ _ hM).mono ?_
  rintro e w' ⟨rfl, rfl⟩
  have e1 : (MS.new (q + 1)).there = 0 := rfl
  rw [e1]
  go_wp2_with fail
  refine (count_any b cb wb _ _ hM).mono ?_
  rintro e w' ⟨rfl, rfl⟩
  have e2 : (MS.new (q + 1)).count = 0 := rfl
  rw [e2]
  clear e1 e2
  go_wp2_with fail
  refine (map_ok b cb wb _ (q : Int) 1 _ hM (by omega) (by omega) (by simp [MS.new]) 32 (.inl rfl) (by intro i hi; simp [MS.new, List.getD, List.getElem?_replicate]; split <;> rfl)).mono ?_
  rintro e w2 ⟨rfl, hM2, hK2⟩
  have hM2 : MemAt w2 b cb wb (lastOne q) := hM2
  have hK2 := hK.drop hK2 HX.out
  clear hM
  go_wp2_with fail
  refine (map_row b ((q : Int) + 1) 1 w2 32 (by omega) (.inl rfl) _ _ (row_addr b cb wb (lastOne q) ((q : Int) + 1) 1 false w2 hM2 (by omega) (.inr (by rw [lastOne_len]; omega)))).mono ?_
  rintro e w3 ⟨rfl, rfl⟩
  have hE := ErrAt.fresh w2 memS ((q : Int) + 1) 2
  have hK3 := hK2.alloc (.cells #[.string memS, .int .i64 ((q : Int) + 1), .iface 30 (.int .i64 2)] 97)
  have hM3 := hM2.alloc (.cells #[.string memS, .int .i64 ((q : Int) + 1), .iface 30 (.int .i64 2)] 97)
  generalize (w2.alloc (.cells #[.string memS, .int .i64 ((q : Int) + 1), .iface 30 (.int .i64 2)] 97)) = w3 at *
  clear hM2
  go_wp2_with fail
  refine (no_any memS ((q : Int) + 1) 2 _).mono ?_
  rintro e w4 ⟨u, rfl, hF4, hK4⟩
  have hK4' := hK3.trans hK4
  have hM4 := hM3.keeps hK4 (by simp) (by simp) (by simp)
  go_wp2_with fail
  refine (same_one _ u memS ((q : Int) + 1) 2 _ (HG.out.keeps hK4' (by simp)) (hE.keeps hK4) hF4 (by omega) (by omega)).mono ?_
  rintro e w5 ⟨rfl, hK5⟩
  have hK5' := hK4'.trans hK5
  have hM5 := hM4.keeps hK5 (by simp) (by simp) (by simp)
  go_wp2_with fail
  refine (width_any b cb wb (lastOne q) (q : Int) _ hM5 (by omega)).mono ?_
  rintro e w' ⟨rfl, rfl⟩
  rw [lastOne_width]
  go_wp2_with fail
  refine (there_any b cb wb _ _ hM5).mono ?_
  rintro e w' ⟨rfl, rfl⟩
  rw [lastOne_there]
  go_wp2_with fail
  refine (awake_any _).mono ?_
  rintro e w7 ⟨rfl, hK7⟩
  go_wp2_with fail
  go_ret
  exact ⟨rfl, (hK5'.trans hK7).below (Nat.le_refl _) (by simp)⟩

theorem memNews_walk (m : Int) (w : World) (_w0 : (Lit.int .i64 m).wf = true) (hg : w.cell? ⟨0, 0, none⟩ = some (.iface 137 (.agg #[.pointer (some ⟨1, 24, none⟩)]))) :
    Calls Tryd.prog 3 #[.int .i64 m] w fun e w' => e = .returned (.bool true) ∧ Below w.heap.size w w' := by
  by_cases h : m < 1 ∨ 65536 < m
  · exact memNews_out m w hg h
  · obtain ⟨n, hn⟩ := Int.eq_ofNat_of_zero_le (show 0 ≤ m - 1 by omega)
    obtain rfl : m = (n : Int) + 1 := by omega
    exact memNews_in n w hg (by omega)
end Go.Proofs.YtmciclhifcjoiaaDoor
