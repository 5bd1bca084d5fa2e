/-
  The document's memory: Map and Unmap. (Printed by gen_ref02d.py.)
-/
import Derived.Test.YtmciclhifcjoiaaDoorRef02c
namespace Go.Proofs.YtmciclhifcjoiaaDoor
open Go.RowKit

theorem rpost_part {w : World} {b wb hb : Nat} {s : MS} {a : Int} {k : Nat} {v : Int} (hv : v = 0 ∨ v = 32 ∨ v = 64) (hM : RefAt w b wb hb (s.part a k v)) :
    RefAt ((w.setCell ⟨wb, a.toNat + k, none⟩ (.int .i64 v)).setCell ⟨hb, a.toNat + k, none⟩ (.int .u64 0)) b wb hb (s.part a (k + 1) v) ∧
      Keeps [b, wb, hb] w ((w.setCell ⟨wb, a.toNat + k, none⟩ (.int .i64 v)).setCell ⟨hb, a.toNat + k, none⟩ (.int .u64 0)) := by
  obtain ⟨h0, h1, h2, hbc, hbw, hcw, hok⟩ := hM
  have e : (fill s.width a.toNat v (k + 1)).length = (fill s.width a.toNat v k).length := by rw [fill_length, fill_length]
  refine ⟨⟨?_, ?_, ?_, hbc, hbw, hcw, ?_⟩, ((Keeps.refl _ _).set (by simp) _).set (by simp) _⟩
  · have h := (h0.other (a := ⟨wb, a.toNat + k, none⟩) (by simpa using hbc.symm) (.int .i64 v)).other (a := ⟨hb, a.toNat + k, none⟩) (by simpa using hbw.symm) (.int .u64 0)
    simp only [MS.part] at h ⊢
    rw [e]
    exact h
  · have h := (h1.set (a.toNat + k) (.int .i64 v)).other (a := ⟨hb, a.toNat + k, none⟩) (by simpa using hcw.symm) (.int .u64 0)
    rw [ints_set] at h
    exact h
  · have h := (h2.other (a := ⟨wb, a.toNat + k, none⟩) (by simpa using hcw) (.int .i64 v)).set (a.toNat + k) (.int .u64 0)
    rw [ints_set] at h
    exact h
  · refine ⟨?_, ?_, ?_⟩
    · have := hok.len
      simp only [MS.part, fill_length] at this ⊢
      exact this
    · have := hok.most
      simp only [MS.part, fill_length] at this ⊢
      exact this
    · intro x hx
      rcases List.mem_or_eq_of_mem_set hx with h | h
      · exact hok.widths x h
      · exact h ▸ hv

section
variable (b wb hb : Nat) (s : MS) (a n : Int) (w : World) (hM : RefAt w b wb hb s) (h0 : 0 ≤ a) (hn : 1 ≤ n) (hin : a + n ≤ s.width.length)
include hM h0 hn hin

omit hn in
theorem rround_facts {wr : World} {k : Nat} {v : Int} (hk : (k : Int) < n) (h : RefAt wr b wb hb (s.part a k v)) :
    wr.cell? ⟨b, 0, none⟩ = some (.slice (some ⟨wb, 0, none⟩) s.width.length s.width.length) ∧ wr.cell? ⟨b, 1, none⟩ = some (.slice (some ⟨hb, 0, none⟩) s.width.length s.width.length) ∧
    (∃ x, wr.cell? ⟨wb, a.toNat + k, none⟩ = some x) ∧ (∃ x, wr.cell? ⟨hb, a.toNat + k, none⟩ = some x) ∧ wr.frozen? ⟨wb, a.toNat + k, none⟩ = false ∧ wr.frozen? ⟨hb, a.toNat + k, none⟩ = false := by
  have hm := hM.2.2.2.2.2.2.len
  have c0 := h.1.cell (i := 0) rfl
  have c1 := h.1.cell (i := 1) rfl
  simp only [MS.part, fill_length] at c0 c1
  refine ⟨c0, c1, ⟨_, h.2.1.cell (ints_get ?_)⟩, ⟨_, h.2.2.1.cell (ints_get ?_)⟩, h.2.1.frozen _, h.2.2.1.frozen _⟩
  · simp only [MS.part, fill_length]; omega
  · simp only [MS.part, fill_length]; omega

set_option maxHeartbeats 2000000 in
theorem rmap_ok (v : Int) (hv : v = 32 ∨ v = 64) (hall : allAre s.width false a n.toNat) : Calls Tryd.prog 30 #[.pointer (some ⟨b, 0, none⟩), .int .i64 a, .int .i64 n, .int .i64 v] w fun e w' =>
    e = .returned (.pointer none) ∧ RefAt w' b wb hb (s.part a n.toNat v) ∧ Keeps [b, wb, hb] w w' := by
  have hok := hM.2.2.2.2.2.2
  have hm := hok.most
  have hc0 := hM.1.cell (i := 0) rfl
  have HW := hid hM.2.1
  have HA := hid hall
  have hin2 := hin
  clear hall hin
  generalize hL : s.width.length = len at *
  have HL := hid hL
  have HD := hid (show decide (0 ≤ a ∧ a + n ≤ (s.width.length : Int)) = true by rw [hL]; simp; omega)
  clear hL
  have d1 : decide (n < 1) = false := by simp; omega
  rcases hv with rfl | rfl
  · go_enter Tryd.func30, Tryd.ntmps30
    go_wp2_with fail
    refine (rin_any b wb hb s a n _ hM hn (by omega)).mono ?_
    rintro e w' ⟨rfl, rfl⟩
    rw [HD.out]
    go_wp2_with fail
    go_loop [9] (fun i => ∃ k : Nat, (k : Int) ≤ n ∧ i = .int .i64 (a + k)) (fun i => (a + n - intOf i).toNat)
    case atStart => exact ⟨0, by omega, by simp⟩
    case round =>
      obtain ⟨k, hk, rfl⟩ := hrel
      by_cases hlt : (k : Int) < n
      · have hl : (a + k).toNat < s.width.length := by have := HL.out; omega
        have hx := HW.out.cell (ints_get hl)
        have hq : (s.width.getD (a + k).toNat 0 != 0) = false := by rw [show (a + (k : Int)).toNat = a.toNat + k by omega]; exact HA.out k (by omega)
        generalize s.width.getD (a + k).toNat 0 = x at *
        have hq2 : (x != 0) = false := by simpa using hq
        have hr : a + (k : Int) < a + n := by omega
        clear hq
        go_wp2
        go_round
        case rel => exact ⟨k + 1, by omega, by go_num⟩
        case measure => simp [intOf]; omega
      · obtain rfl : n = (k : Int) := by omega
        go_wp2
        go_loopw [10] (fun i wr => ∃ j : Nat, j ≤ k ∧ i = .int .i64 (a + j) ∧ RefAt wr b wb hb (s.part a j 32) ∧ Keeps [b, wb, hb] w wr) (fun i _ => (a + k - intOf i).toNat)
        case atStart => exact ⟨0, by omega, by simp, hM, Keeps.refl _ _⟩
        case round =>
          obtain ⟨j, hj, rfl, hR, hK⟩ := hrel
          by_cases hjl : j < k
          · obtain ⟨c0, c1, ⟨x, cx⟩, ⟨y, cy⟩, fx, fy⟩ := rround_facts b wb hb s a k w hM h0 (by have := HL.out; omega) (by omega) hR
            have he : (a + (j : Int)).toNat = a.toNat + j := by omega
            have hbc := hM.2.2.2.1
            have hbw := hM.2.2.2.2.1
            have hcw := hM.2.2.2.2.2.1
            have hr : a + (j : Int) < a + k := by omega
            rw [HL.out] at c0 c1
            go_wp2
            go_region
            all_goals go_wp2
            all_goals go_roundw
            all_goals first
              | exact ⟨j + 1, by omega, by go_num, (rpost_part (by decide) hR).1.drew, (hK.trans (rpost_part (by decide) hR).2).drew⟩
              | (simp [intOf]; omega)
          · obtain rfl : j = k := by omega
            go_wp2
            go_ret
            exact ⟨rfl, hR, hK⟩
  · go_enter Tryd.func30, Tryd.ntmps30
    go_wp2_with fail
    refine (rin_any b wb hb s a n _ hM hn (by omega)).mono ?_
    rintro e w' ⟨rfl, rfl⟩
    rw [HD.out]
    go_wp2_with fail
    go_loop [9] (fun i => ∃ k : Nat, (k : Int) ≤ n ∧ i = .int .i64 (a + k)) (fun i => (a + n - intOf i).toNat)
    case atStart => exact ⟨0, by omega, by simp⟩
    case round =>
      obtain ⟨k, hk, rfl⟩ := hrel
      by_cases hlt : (k : Int) < n
      · have hl : (a + k).toNat < s.width.length := by have := HL.out; omega
        have hx := HW.out.cell (ints_get hl)
        have hq : (s.width.getD (a + k).toNat 0 != 0) = false := by rw [show (a + (k : Int)).toNat = a.toNat + k by omega]; exact HA.out k (by omega)
        generalize s.width.getD (a + k).toNat 0 = x at *
        have hq2 : (x != 0) = false := by simpa using hq
        have hr : a + (k : Int) < a + n := by omega
        clear hq
        go_wp2
        go_round
        case rel => exact ⟨k + 1, by omega, by go_num⟩
        case measure => simp [intOf]; omega
      · obtain rfl : n = (k : Int) := by omega
        go_wp2
        go_loopw [10] (fun i wr => ∃ j : Nat, j ≤ k ∧ i = .int .i64 (a + j) ∧ RefAt wr b wb hb (s.part a j 64) ∧ Keeps [b, wb, hb] w wr) (fun i _ => (a + k - intOf i).toNat)
        case atStart => exact ⟨0, by omega, by simp, hM, Keeps.refl _ _⟩
        case round =>
          obtain ⟨j, hj, rfl, hR, hK⟩ := hrel
          by_cases hjl : j < k
          · obtain ⟨c0, c1, ⟨x, cx⟩, ⟨y, cy⟩, fx, fy⟩ := rround_facts b wb hb s a k w hM h0 (by have := HL.out; omega) (by omega) hR
            have he : (a + (j : Int)).toNat = a.toNat + j := by omega
            have hbc := hM.2.2.2.1
            have hbw := hM.2.2.2.2.1
            have hcw := hM.2.2.2.2.2.1
            have hr : a + (j : Int) < a + k := by omega
            rw [HL.out] at c0 c1
            go_wp2
            go_region
            all_goals go_wp2
            all_goals go_roundw
            all_goals first
              | exact ⟨j + 1, by omega, by go_num, (rpost_part (by decide) hR).1.drew, (hK.trans (rpost_part (by decide) hR).2).drew⟩
              | (simp [intOf]; omega)
          · obtain rfl : j = k := by omega
            go_wp2
            go_ret
            exact ⟨rfl, hR, hK⟩

set_option maxHeartbeats 2000000 in
theorem rmap_block (v : Int) (hv : v = 32 ∨ v = 64) (j : Nat) (hj : (j : Int) < n) (hall : allAre s.width false a j) (hbad : (s.width.getD (a.toNat + j) 0 != 0) = true) : Calls Tryd.prog 30 #[.pointer (some ⟨b, 0, none⟩), .int .i64 a, .int .i64 n, .int .i64 v] w (NoPost w memS (a + j) 4) := by
  have hok := hM.2.2.2.2.2.2
  have hm := hok.most
  have hc0 := hM.1.cell (i := 0) rfl
  have HW := hid hM.2.1
  have HA := hid hall
  have HB := hid hbad
  clear hbad
  have hin2 := hin
  clear hall hin
  generalize hL : s.width.length = len at *
  have HL := hid hL
  have HD := hid (show decide (0 ≤ a ∧ a + n ≤ (s.width.length : Int)) = true by rw [hL]; simp; omega)
  clear hL
  have d1 : decide (n < 1) = false := by simp; omega
  rcases hv with rfl | rfl
  · go_enter Tryd.func30, Tryd.ntmps30
    go_wp2_with fail
    refine (rin_any b wb hb s a n _ hM hn (by omega)).mono ?_
    rintro e w' ⟨rfl, rfl⟩
    rw [HD.out]
    go_wp2_with fail
    go_loop [9] (fun i => ∃ k : Nat, k ≤ j ∧ i = .int .i64 (a + k)) (fun i => (a + n - intOf i).toNat)
    case atStart => exact ⟨0, by omega, by simp⟩
    case round =>
      obtain ⟨k, hk, rfl⟩ := hrel
      by_cases hlt : k < j
      · have hl : (a + k).toNat < s.width.length := by have := HL.out; omega
        have hx := HW.out.cell (ints_get hl)
        have hq : (s.width.getD (a + k).toNat 0 != 0) = false := by rw [show (a + (k : Int)).toNat = a.toNat + k by omega]; exact HA.out k (by omega)
        generalize s.width.getD (a + k).toNat 0 = x at *
        have hq2 : (x != 0) = false := by simpa using hq
        have hr : a + (k : Int) < a + n := by omega
        clear hq
        go_wp2
        go_round
        case rel => exact ⟨k + 1, by omega, by go_num⟩
        case measure => simp [intOf]; omega
      · obtain rfl : k = j := by omega
        have hl : (a + k).toNat < s.width.length := by have := HL.out; omega
        have hx := HW.out.cell (ints_get hl)
        have hq : (s.width.getD (a + k).toNat 0 != 0) = true := by rw [show (a + (k : Int)).toNat = a.toNat + k by omega]; exact HB.out
        generalize s.width.getD (a + k).toNat 0 = x at *
        have hq2 : (x != 0) = true := by simpa using hq
        have hr : a + (k : Int) < a + n := by omega
        clear hq
        go_wp2_with fail
        refine (no_any memS (a + k) 4 _).mono ?_
        rintro e w' ⟨u, rfl, hF, hK⟩
        go_wp2_with fail
        go_ret
        exact ⟨u, rfl, hF, hK⟩
  · go_enter Tryd.func30, Tryd.ntmps30
    go_wp2_with fail
    refine (rin_any b wb hb s a n _ hM hn (by omega)).mono ?_
    rintro e w' ⟨rfl, rfl⟩
    rw [HD.out]
    go_wp2_with fail
    go_loop [9] (fun i => ∃ k : Nat, k ≤ j ∧ i = .int .i64 (a + k)) (fun i => (a + n - intOf i).toNat)
    case atStart => exact ⟨0, by omega, by simp⟩
    case round =>
      obtain ⟨k, hk, rfl⟩ := hrel
      by_cases hlt : k < j
      · have hl : (a + k).toNat < s.width.length := by have := HL.out; omega
        have hx := HW.out.cell (ints_get hl)
        have hq : (s.width.getD (a + k).toNat 0 != 0) = false := by rw [show (a + (k : Int)).toNat = a.toNat + k by omega]; exact HA.out k (by omega)
        generalize s.width.getD (a + k).toNat 0 = x at *
        have hq2 : (x != 0) = false := by simpa using hq
        have hr : a + (k : Int) < a + n := by omega
        clear hq
        go_wp2
        go_round
        case rel => exact ⟨k + 1, by omega, by go_num⟩
        case measure => simp [intOf]; omega
      · obtain rfl : k = j := by omega
        have hl : (a + k).toNat < s.width.length := by have := HL.out; omega
        have hx := HW.out.cell (ints_get hl)
        have hq : (s.width.getD (a + k).toNat 0 != 0) = true := by rw [show (a + (k : Int)).toNat = a.toNat + k by omega]; exact HB.out
        generalize s.width.getD (a + k).toNat 0 = x at *
        have hq2 : (x != 0) = true := by simpa using hq
        have hr : a + (k : Int) < a + n := by omega
        clear hq
        go_wp2_with fail
        refine (no_any memS (a + k) 4 _).mono ?_
        rintro e w' ⟨u, rfl, hF, hK⟩
        go_wp2_with fail
        go_ret
        exact ⟨u, rfl, hF, hK⟩

set_option maxHeartbeats 2000000 in
theorem runmap_ok (hall : allAre s.width true a n.toNat) : Calls Tryd.prog 41 #[.pointer (some ⟨b, 0, none⟩), .int .i64 a, .int .i64 n] w fun e w' =>
    e = .returned (.pointer none) ∧ RefAt w' b wb hb (s.part a n.toNat 0) ∧ Keeps [b, wb, hb] w w' := by
  have hok := hM.2.2.2.2.2.2
  have hm := hok.most
  have hc0 := hM.1.cell (i := 0) rfl
  have HW := hid hM.2.1
  have HA := hid hall
  have hin2 := hin
  clear hall hin
  generalize hL : s.width.length = len at *
  have HL := hid hL
  have HD := hid (show decide (0 ≤ a ∧ a + n ≤ (s.width.length : Int)) = true by rw [hL]; simp; omega)
  clear hL
  have d1 : decide (n < 1) = false := by simp; omega
  go_enter Tryd.func41, Tryd.ntmps41
  go_wp2_with fail
  refine (rin_any b wb hb s a n _ hM hn (by omega)).mono ?_
  rintro e w' ⟨rfl, rfl⟩
  rw [HD.out]
  go_wp2_with fail
  go_loop [7] (fun i => ∃ k : Nat, (k : Int) ≤ n ∧ i = .int .i64 (a + k)) (fun i => (a + n - intOf i).toNat)
  case atStart => exact ⟨0, by omega, by simp⟩
  case round =>
    obtain ⟨k, hk, rfl⟩ := hrel
    by_cases hlt : (k : Int) < n
    · have hl : (a + k).toNat < s.width.length := by have := HL.out; omega
      have hx := HW.out.cell (ints_get hl)
      have hq : (s.width.getD (a + k).toNat 0 != 0) = true := by rw [show (a + (k : Int)).toNat = a.toNat + k by omega]; exact HA.out k (by omega)
      generalize s.width.getD (a + k).toNat 0 = x at *
      have hq2 : (x == 0) = false := by simpa using hq
      have hr : a + (k : Int) < a + n := by omega
      clear hq
      go_wp2
      go_round
      case rel => exact ⟨k + 1, by omega, by go_num⟩
      case measure => simp [intOf]; omega
    · obtain rfl : n = (k : Int) := by omega
      go_wp2
      go_loopw [8] (fun i wr => ∃ j : Nat, j ≤ k ∧ i = .int .i64 (a + j) ∧ RefAt wr b wb hb (s.part a j 0) ∧ Keeps [b, wb, hb] w wr) (fun i _ => (a + k - intOf i).toNat)
      case atStart => exact ⟨0, by omega, by simp, hM, Keeps.refl _ _⟩
      case round =>
        obtain ⟨j, hj, rfl, hR, hK⟩ := hrel
        by_cases hjl : j < k
        · obtain ⟨c0, c1, ⟨x, cx⟩, ⟨y, cy⟩, fx, fy⟩ := rround_facts b wb hb s a k w hM h0 (by have := HL.out; omega) (by omega) hR
          have he : (a + (j : Int)).toNat = a.toNat + j := by omega
          have hbc := hM.2.2.2.1
          have hbw := hM.2.2.2.2.1
          have hcw := hM.2.2.2.2.2.1
          have hr : a + (j : Int) < a + k := by omega
          rw [HL.out] at c0 c1
          go_wp2
          go_region
          all_goals go_wp2
          all_goals go_roundw
          all_goals first
            | exact ⟨j + 1, by omega, by go_num, (rpost_part (by decide) hR).1.drew, (hK.trans (rpost_part (by decide) hR).2).drew⟩
            | (simp [intOf]; omega)
        · obtain rfl : j = k := by omega
          go_wp2
          go_ret
          exact ⟨rfl, hR, hK⟩

set_option maxHeartbeats 2000000 in
theorem runmap_block (j : Nat) (hj : (j : Int) < n) (hall : allAre s.width true a j) (hbad : (s.width.getD (a.toNat + j) 0 != 0) = false) : Calls Tryd.prog 41 #[.pointer (some ⟨b, 0, none⟩), .int .i64 a, .int .i64 n] w (NoPost w memS (a + j) 4) := by
  have hok := hM.2.2.2.2.2.2
  have hm := hok.most
  have hc0 := hM.1.cell (i := 0) rfl
  have HW := hid hM.2.1
  have HA := hid hall
  have HB := hid hbad
  clear hbad
  have hin2 := hin
  clear hall hin
  generalize hL : s.width.length = len at *
  have HL := hid hL
  have HD := hid (show decide (0 ≤ a ∧ a + n ≤ (s.width.length : Int)) = true by rw [hL]; simp; omega)
  clear hL
  have d1 : decide (n < 1) = false := by simp; omega
  go_enter Tryd.func41, Tryd.ntmps41
  go_wp2_with fail
  refine (rin_any b wb hb s a n _ hM hn (by omega)).mono ?_
  rintro e w' ⟨rfl, rfl⟩
  rw [HD.out]
  go_wp2_with fail
  go_loop [7] (fun i => ∃ k : Nat, k ≤ j ∧ i = .int .i64 (a + k)) (fun i => (a + n - intOf i).toNat)
  case atStart => exact ⟨0, by omega, by simp⟩
  case round =>
    obtain ⟨k, hk, rfl⟩ := hrel
    by_cases hlt : k < j
    · have hl : (a + k).toNat < s.width.length := by have := HL.out; omega
      have hx := HW.out.cell (ints_get hl)
      have hq : (s.width.getD (a + k).toNat 0 != 0) = true := by rw [show (a + (k : Int)).toNat = a.toNat + k by omega]; exact HA.out k (by omega)
      generalize s.width.getD (a + k).toNat 0 = x at *
      have hq2 : (x == 0) = false := by simpa using hq
      have hr : a + (k : Int) < a + n := by omega
      clear hq
      go_wp2
      go_round
      case rel => exact ⟨k + 1, by omega, by go_num⟩
      case measure => simp [intOf]; omega
    · obtain rfl : k = j := by omega
      have hl : (a + k).toNat < s.width.length := by have := HL.out; omega
      have hx := HW.out.cell (ints_get hl)
      have hq : (s.width.getD (a + k).toNat 0 != 0) = false := by rw [show (a + (k : Int)).toNat = a.toNat + k by omega]; exact HB.out
      generalize s.width.getD (a + k).toNat 0 = x at *
      have hq2 : (x == 0) = true := by simpa using hq
      have hr : a + (k : Int) < a + n := by omega
      clear hq
      go_wp2_with fail
      refine (no_any memS (a + k) 4 _).mono ?_
      rintro e w' ⟨u, rfl, hF, hK⟩
      go_wp2_with fail
      go_ret
      exact ⟨u, rfl, hF, hK⟩
end
end Go.Proofs.YtmciclhifcjoiaaDoor
