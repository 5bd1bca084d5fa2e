/-
  The document's memory (distaffref02): Cut and Sum of distaffref01, what a memory of the document is in the heap, New, in, Width.
-/
import Derived.Test.YtmciclhifcjoiaaDoorMem5
import Derived.Test.YtmciclhifcjoiaaDoorWords
namespace Go.Proofs.YtmciclhifcjoiaaDoor
open Go.RowKit

/-- The document's memory: its widths in a row of their own, what it holds, how many accesses were done (there: no field). -/
def RefAt (w : World) (b wb hb : Nat) (s : MS) : Prop :=
  Blk w b #[.slice (some ⟨wb, 0, none⟩) s.width.length s.width.length, .slice (some ⟨hb, 0, none⟩) s.width.length s.width.length, .int .i64 s.count] 102 ∧
  Blk w wb (ints .i64 s.width) 3 ∧ Blk w hb (ints .u64 s.hold) 35 ∧ b ≠ wb ∧ b ≠ hb ∧ wb ≠ hb ∧ s.ok

theorem RefAt.drew {w : World} {b wb hb : Nat} {s : MS} (h : RefAt w b wb hb s) : RefAt w.drew b wb hb s := h
theorem RefAt.keeps {S : List Nat} {w w' : World} {b wb hb : Nat} {s : MS} (h : RefAt w b wb hb s) (k : Keeps S w w') (h1 : b ∉ S) (h2 : wb ∉ S) (h3 : hb ∉ S) : RefAt w' b wb hb s :=
  ⟨h.1.keeps k h1, h.2.1.keeps k h2, h.2.2.1.keeps k h3, h.2.2.2⟩
theorem RefAt.lt {w : World} {b wb hb : Nat} {s : MS} (h : RefAt w b wb hb s) : b < w.heap.size ∧ wb < w.heap.size ∧ hb < w.heap.size := ⟨h.1.lt, h.2.1.lt, h.2.2.1.lt⟩

set_option maxHeartbeats 400000 in
theorem rcut_any (k v : Int) (w : World) (h0 : 0 ≤ v) (h1 : v ≤ 18446744073709551615) :
    Calls Tryd.prog 71 #[.int .i64 k, .int .u64 v] w fun e w' => e = .returned (.int .u64 (cutI k v)) ∧ w = w' := by
  have H : ∀ x : Int, x = cutI k v → Ending.returned (.int .u64 x) = .returned (.int .u64 (cutI k v)) := fun x h => by rw [h]
  have H := hid H
  have HC := hid (cut32 v h0 h1)
  by_cases h64 : k = 64
  · subst h64
    go_enter Tryd.func71, Tryd.ntmps71
    go_wp2
    go_ret
    exact ⟨H.out _ (by simp [cutI]), rfl⟩
  · have b64 : (k == 64) = false := beq_eq_false_iff_ne.2 h64
    by_cases h32 : k = 32
    · subst h32
      go_enter Tryd.func71, Tryd.ntmps71
      go_wp2
      go_ret
      exact ⟨H.out _ HC.out.symm, rfl⟩
    · have b32 : (k == 32) = false := beq_eq_false_iff_ne.2 h32
      go_enter Tryd.func71, Tryd.ntmps71
      go_wp2
      go_ret
      exact ⟨H.out _ (by simp [cutI, h32, h64]), rfl⟩

set_option maxHeartbeats 400000 in
theorem rsum_any (k a b : Int) (w : World) (ha0 : 0 ≤ a) (ha1 : a ≤ 18446744073709551615) (hb0 : 0 ≤ b) (hb1 : b ≤ 18446744073709551615) :
    Calls Tryd.prog 72 #[.int .i64 k, .int .u64 a, .int .u64 b] w fun e w' => e = .returned (.int .u64 (sumI k a b)) ∧ w = w' := by
  have H : ∀ x : Int, x = sumI k a b → Ending.returned (.int .u64 x) = .returned (.int .u64 (sumI k a b)) := fun x h => by rw [h]
  have H := hid H
  have hw : ∀ x : Int, 0 ≤ IntKind.u64.wrap x ∧ IntKind.u64.wrap x ≤ 18446744073709551615 := by intro x; simp only [IntKind.wrap_u64]; omega
  have HW := hid (hw (cutI k a + cutI k b))
  clear hw
  go_enter Tryd.func72, Tryd.ntmps72
  go_wp2_with fail
  refine (rcut_any _ _ _ ha0 ha1).mono ?_
  rintro e w' ⟨rfl, rfl⟩
  go_wp2_with fail
  refine (rcut_any _ _ _ hb0 hb1).mono ?_
  rintro e w' ⟨rfl, rfl⟩
  go_wp2_with fail
  refine (rcut_any _ _ _ HW.out.1 HW.out.2).mono ?_
  rintro e w' ⟨rfl, rfl⟩
  go_wp2_with fail
  go_ret
  exact ⟨H.out _ rfl, rfl⟩

set_option maxHeartbeats 400000 in
theorem rwidth_any (b wb hb : Nat) (s : MS) (a : Int) (w : World) (hM : RefAt w b wb hb s) (h0 : 0 ≤ a) :
    Calls Tryd.prog 51 #[.pointer (some ⟨b, 0, none⟩), .int .u64 a] w fun e w' => e = .returned (.int .i64 (s.width.getD a.toNat 0)) ∧ w = w' := by
  have hok := hM.2.2.2.2.2.2
  have hn := hok.most
  have hc0 := hM.1.cell (i := 0) rfl
  generalize hL : s.width.length = n at *
  by_cases h1 : a < (n : Int)
  · have hlt : a.toNat < s.width.length := by omega
    have hx := hM.2.1.cell (ints_get hlt)
    generalize s.width.getD a.toNat 0 = x at *
    clear hL
    go_enter Tryd.func51, Tryd.ntmps51
    go_wp2
    go_ret
    exact ⟨rfl, rfl⟩
  · have hd : s.width.getD a.toNat 0 = 0 := by simp [List.getD, show s.width.length ≤ a.toNat by omega]
    rw [hd]
    clear hd hL
    go_enter Tryd.func51, Tryd.ntmps51
    go_wp2
    go_ret
    exact ⟨rfl, rfl⟩

set_option maxHeartbeats 400000 in
theorem rin_any (b wb hb : Nat) (s : MS) (a n : Int) (w : World) (hM : RefAt w b wb hb s) (hn : 1 ≤ n) (ha : a ≤ 9223372036854775807) :
    Calls Tryd.prog 55 #[.pointer (some ⟨b, 0, none⟩), .int .i64 a, .int .i64 n] w fun e w' => e = .returned (.bool (decide (0 ≤ a ∧ a + n ≤ s.width.length))) ∧ w = w' := by
  have hm := hM.2.2.2.2.2.2.most
  have hc0 := hM.1.cell (i := 0) rfl
  generalize s.width.length = len at *
  by_cases h0 : 0 ≤ a
  · have d0 : decide (0 ≤ a) = true := by simpa using h0
    by_cases h1 : n ≤ (len : Int)
    · have d1 : decide (n ≤ (len : Int)) = true := by simpa using h1
      by_cases h2 : a ≤ (len : Int) - n
      · have d2 : decide (a ≤ (len : Int) - n) = true := by simpa using h2
        rw [show decide (0 ≤ a ∧ a + n ≤ (len : Int)) = true by simp; omega]
        go_enter Tryd.func55, Tryd.ntmps55
        go_wp2
        go_ret
        exact ⟨rfl, rfl⟩
      · have d2 : decide (a ≤ (len : Int) - n) = false := by simpa using h2
        rw [show decide (0 ≤ a ∧ a + n ≤ (len : Int)) = false by simp; omega]
        go_enter Tryd.func55, Tryd.ntmps55
        go_wp2
        go_ret
        exact ⟨rfl, rfl⟩
    · have d1 : decide (n ≤ (len : Int)) = false := by simpa using h1
      rw [show decide (0 ≤ a ∧ a + n ≤ (len : Int)) = false by simp; omega]
      go_enter Tryd.func55, Tryd.ntmps55
      go_wp2
      go_ret
      exact ⟨rfl, rfl⟩
  · have d0 : decide (0 ≤ a) = false := by simpa using h0
    rw [show decide (0 ≤ a ∧ a + n ≤ (len : Int)) = false by simp; omega]
    go_enter Tryd.func55, Tryd.ntmps55
    go_wp2
    go_ret
    exact ⟨rfl, rfl⟩
end Go.Proofs.YtmciclhifcjoiaaDoor
