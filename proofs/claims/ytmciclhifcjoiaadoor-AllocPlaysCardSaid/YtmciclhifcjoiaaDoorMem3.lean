/-
  The package mem: Map, Unmap, New.
-/
import Derived.Test.YtmciclhifcjoiaaDoorMem2
import Derived.Deep.OwnRows
namespace Go.Proofs.YtmciclhifcjoiaaDoor
open Go.RowKit

/-- v in the places from i on, k of them. -/
def fill (l : List Int) (i : Nat) (v : Int) : Nat → List Int
  | 0 => l
  | k + 1 => (fill l i v k).set (i + k) v

theorem fill_length (l : List Int) (i : Nat) (v : Int) (k : Nat) : (fill l i v k).length = l.length := by
  induction k with
  | zero => rfl
  | succ k ih => simp [fill, ih]

theorem fill_get (l : List Int) (i : Nat) (v : Int) (k j : Nat) : (fill l i v k).getD j 0 = if i ≤ j ∧ j < i + k ∧ j < l.length then v else l.getD j 0 := by
  induction k with
  | zero =>
    have h : ¬ (i ≤ j ∧ j < i + 0 ∧ j < l.length) := by omega
    rw [if_neg h]
    rfl
  | succ k ih =>
    have hl := fill_length l i v k
    simp only [fill, List.getD_eq_getElem?_getD, List.getElem?_set] at ih ⊢
    by_cases he : i + k = j
    · subst he
      by_cases hlt : i + k < l.length
      · rw [if_pos rfl, if_pos (by omega), if_pos (by omega)]
        rfl
      · rw [if_pos rfl, if_neg (by omega), if_neg (by omega)]
        simp [Nat.le_of_not_lt hlt]
    · rw [if_neg he, ih]
      by_cases h1 : i ≤ j ∧ j < i + k ∧ j < l.length
      · rw [if_pos h1, if_pos (by omega)]
      · rw [if_neg h1, if_neg (by omega)]

theorem fill_mem {l : List Int} {i : Nat} {v : Int} {k : Nat} {x : Int} (h : x ∈ fill l i v k) : x = v ∨ x ∈ l := by
  induction k with
  | zero => exact .inr h
  | succ k ih =>
    rcases List.mem_or_eq_of_mem_set h with h | h
    · exact ih h
    · exact .inl h

/-- Map and Unmap that go: what becomes of a memory. -/
def MS.part (s : MS) (a : Int) (k : Nat) (v : Int) : MS := { s with width := fill s.width a.toNat v k, hold := fill s.hold a.toNat 0 k }
def MS.map (s : MS) (a n v : Int) : MS := { s.part a n.toNat v with there := wrap64 (s.there + n) }
def MS.unmap (s : MS) (a n : Int) : MS := { s.part a n.toNat 0 with there := wrap64 (s.there - n) }

theorem MS.part_ok {s : MS} (h : s.ok) (a : Int) (k : Nat) (v : Int) (hv : v = 0 ∨ v = 32 ∨ v = 64) : (s.part a k v).ok := by
  refine ⟨?_, ?_, ?_⟩
  · simp only [MS.part, fill_length]; exact h.len
  · simp only [MS.part, fill_length]; exact h.most
  · intro x hx
    rcases fill_mem hx with rfl | hx
    · exact hv
    · exact h.widths x hx

theorem post_part {w : World} {b cb wb : Nat} {s : MS} {a : Int} {k : Nat} {v : Int} (hv : v = 0 ∨ v = 32 ∨ v = 64) (hM : MemAt w b cb wb (s.part a k v)) :
    MemAt ((w.setCell ⟨wb, a.toNat + k, none⟩ (.int .u8 v)).setCell ⟨cb, a.toNat + k, none⟩ (.int .u64 0)) b cb wb (s.part a (k + 1) v) ∧
      Keeps [b, cb, wb] w ((w.setCell ⟨wb, a.toNat + k, none⟩ (.int .u8 v)).setCell ⟨cb, a.toNat + k, none⟩ (.int .u64 0)) := by
  obtain ⟨h0, h1, h2, hbc, hbw, hcw, hok⟩ := hM
  have e : (fill s.width a.toNat v (k + 1)).length = (fill s.width a.toNat v k).length := by rw [fill_length, fill_length]
  refine ⟨⟨?_, ?_, ?_, hbc, hbw, hcw, ?_⟩, ((Keeps.refl _ _).set (by simp) _).set (by simp) _⟩
  · have h := (h0.other (a := ⟨wb, a.toNat + k, none⟩) (by simpa using hbw.symm) (.int .u8 v)).other (a := ⟨cb, a.toNat + k, none⟩) (by simpa using hbc.symm) (.int .u64 0)
    simp only [MS.part] at h ⊢
    rw [e]
    exact h
  · have h := (h1.other (a := ⟨wb, a.toNat + k, none⟩) (by simpa using hcw.symm) (.int .u8 v)).set (a.toNat + k) (.int .u64 0)
    rw [ints_set] at h
    exact h
  · have h := (h2.set (a.toNat + k) (.int .u8 v)).other (a := ⟨cb, a.toNat + k, none⟩) (by simpa using hcw) (.int .u64 0)
    rw [ints_set] at h
    exact h
  · refine ⟨?_, ?_, ?_⟩
    · have := hok.len
      simp only [MS.part, fill_length] at this ⊢
      exact this
    · have := hok.most
      simp only [MS.part, fill_length] at this ⊢
      exact this
    · intro x hx
      rcases List.mem_or_eq_of_mem_set hx with h | h
      · exact hok.widths x h
      · exact h ▸ hv

theorem post_there {w : World} {b cb wb : Nat} {s : MS} (hM : MemAt w b cb wb s) (v : Int) :
    MemAt (w.setCell ⟨b, 2, none⟩ (.int .i64 v)) b cb wb { s with there := v } ∧ Keeps [b, cb, wb] w (w.setCell ⟨b, 2, none⟩ (.int .i64 v)) := by
  obtain ⟨h0, h1, h2, hbc, hbw, hcw, hok⟩ := hM
  exact ⟨⟨h0.set 2 _, h1.other (by simpa using hbc) _, h2.other (by simpa using hbw) _, hbc, hbw, hcw, hok.len, hok.most, hok.widths⟩, (Keeps.refl _ _).set (by simp) _⟩

section
variable (b cb wb : Nat) (s : MS) (a n : Int) (w : World) (hM : MemAt w b cb wb s) (h0 : 0 ≤ a) (hn : 1 ≤ n) (hin : a + n ≤ s.width.length)
include hM h0 hn hin

omit hn in
/-- The facts of one round of Map's loop. -/
theorem round_facts {wr : World} {k : Nat} {v : Int} (hk : (k : Int) < n) (h : MemAt wr b cb wb (s.part a k v)) :
    wr.cell? ⟨b, 0, none⟩ = some (.slice (some ⟨cb, 0, none⟩) s.width.length s.width.length) ∧ wr.cell? ⟨b, 1, none⟩ = some (.slice (some ⟨wb, 0, none⟩) s.width.length s.width.length) ∧
    (∃ x, wr.cell? ⟨cb, a.toNat + k, none⟩ = some x) ∧ (∃ x, wr.cell? ⟨wb, a.toNat + k, none⟩ = some x) ∧ wr.frozen? ⟨cb, a.toNat + k, none⟩ = false ∧ wr.frozen? ⟨wb, a.toNat + k, none⟩ = false := by
  have hl := h.2.2.2.2.2.2.len
  have hm := hM.2.2.2.2.2.2.len
  have c0 := h.1.cell (i := 0) rfl
  have c1 := h.1.cell (i := 1) rfl
  simp only [MS.part, fill_length] at c0 c1
  refine ⟨c0, c1, ⟨_, h.2.1.cell (ints_get ?_)⟩, ⟨_, h.2.2.1.cell (ints_get ?_)⟩, h.2.1.frozen _, h.2.2.1.frozen _⟩
  · simp only [MS.part, fill_length]; omega
  · simp only [MS.part, fill_length]; omega

set_option maxHeartbeats 1000000 in
theorem map_ok (v : Int) (hv : v = 32 ∨ v = 64) (hall : allAre s.width false a n.toNat) : Calls Tryd.prog 20 #[.pointer (some ⟨b, 0, none⟩), .int .i64 a, .int .i64 n, .int .i64 v] w fun e w' =>
    e = .returned .nilIface ∧ MemAt w' b cb wb (s.map a n v) ∧ Keeps [b, cb, wb] w w' := by
  have hm := hM.2.2.2.2.2.2.most
  have d1 : decide (n < 1) = false := by simp; omega
  rcases hv with rfl | rfl
  · go_enter Tryd.func20, Tryd.ntmps20
    go_wp2_with fail
    refine (row_ok b cb wb s a n false w hM h0 (by omega) hin hall).mono ?_
    rintro e w' ⟨rfl, rfl⟩
    go_wp2_with fail
    go_loopw [10] (fun i wr => ∃ k : Nat, (k : Int) ≤ n ∧ i = .int .i64 (a + k) ∧ MemAt wr b cb wb (s.part a k 32) ∧ Keeps [b, cb, wb] w wr) (fun i _ => (a + n - intOf i).toNat)
    case atStart => exact ⟨0, by omega, by simp, hM, Keeps.refl _ _⟩
    case round =>
      obtain ⟨k, hk, rfl, hR, hK⟩ := hrel
      by_cases hlt : (k : Int) < n
      · obtain ⟨c0, c1, ⟨x, cx⟩, ⟨y, cy⟩, fx, fy⟩ := round_facts b cb wb s a n w hM h0 hin hlt hR
        have he : (a + (k : Int)).toNat = a.toNat + k := by omega
        have hbc := hM.2.2.2.1
        have hbw := hM.2.2.2.2.1
        have hcw := hM.2.2.2.2.2.1
        have hr : a + (k : Int) < a + n := by omega
        generalize hL : s.width.length = len at *
        have HL := hid hL
        clear hL
        go_wp2
        go_roundw
        case rel => exact ⟨k + 1, by omega, by go_num, (post_part (by decide) hR).1, hK.trans (post_part (by decide) hR).2⟩
        case measure => simp [intOf]; omega
      · obtain rfl : n = (k : Int) := by omega
        have c2 := hR.1.cell (i := 2) rfl
        have f2 := hR.1.frozen 2
        have hs : (s.part a k 32).there = s.there := rfl
        rw [hs] at c2
        have HS := hid hs
        clear hs
        go_wp2
        go_ret
        have hp := post_there hR (wrap64 (s.there + (k : Int)))
        exact ⟨rfl, hp.1, hK.trans hp.2⟩
  · go_enter Tryd.func20, Tryd.ntmps20
    go_wp2_with fail
    refine (row_ok b cb wb s a n false w hM h0 (by omega) hin hall).mono ?_
    rintro e w' ⟨rfl, rfl⟩
    go_wp2_with fail
    go_loopw [10] (fun i wr => ∃ k : Nat, (k : Int) ≤ n ∧ i = .int .i64 (a + k) ∧ MemAt wr b cb wb (s.part a k 64) ∧ Keeps [b, cb, wb] w wr) (fun i _ => (a + n - intOf i).toNat)
    case atStart => exact ⟨0, by omega, by simp, hM, Keeps.refl _ _⟩
    case round =>
      obtain ⟨k, hk, rfl, hR, hK⟩ := hrel
      by_cases hlt : (k : Int) < n
      · obtain ⟨c0, c1, ⟨x, cx⟩, ⟨y, cy⟩, fx, fy⟩ := round_facts b cb wb s a n w hM h0 hin hlt hR
        have he : (a + (k : Int)).toNat = a.toNat + k := by omega
        have hbc := hM.2.2.2.1
        have hbw := hM.2.2.2.2.1
        have hcw := hM.2.2.2.2.2.1
        have hr : a + (k : Int) < a + n := by omega
        generalize hL : s.width.length = len at *
        have HL := hid hL
        clear hL
        go_wp2
        go_roundw
        case rel => exact ⟨k + 1, by omega, by go_num, (post_part (by decide) hR).1, hK.trans (post_part (by decide) hR).2⟩
        case measure => simp [intOf]; omega
      · obtain rfl : n = (k : Int) := by omega
        have c2 := hR.1.cell (i := 2) rfl
        have f2 := hR.1.frozen 2
        have hs : (s.part a k 64).there = s.there := rfl
        rw [hs] at c2
        have HS := hid hs
        clear hs
        go_wp2
        go_ret
        have hp := post_there hR (wrap64 (s.there + (k : Int)))
        exact ⟨rfl, hp.1, hK.trans hp.2⟩

set_option maxHeartbeats 1000000 in
theorem unmap_ok (hall : allAre s.width true a n.toNat) : Calls Tryd.prog 25 #[.pointer (some ⟨b, 0, none⟩), .int .i64 a, .int .i64 n] w fun e w' =>
    e = .returned .nilIface ∧ MemAt w' b cb wb (s.unmap a n) ∧ Keeps [b, cb, wb] w w' := by
  have hm := hM.2.2.2.2.2.2.most
  have d1 : decide (n < 1) = false := by simp; omega
  go_enter Tryd.func25, Tryd.ntmps25
  go_wp2_with fail
  refine (row_ok b cb wb s a n true w hM h0 (by omega) hin hall).mono ?_
  rintro e w' ⟨rfl, rfl⟩
  go_wp2_with fail
  go_loopw [8] (fun i wr => ∃ k : Nat, (k : Int) ≤ n ∧ i = .int .i64 (a + k) ∧ MemAt wr b cb wb (s.part a k 0) ∧ Keeps [b, cb, wb] w wr) (fun i _ => (a + n - intOf i).toNat)
  case atStart => exact ⟨0, by omega, by simp, hM, Keeps.refl _ _⟩
  case round =>
    obtain ⟨k, hk, rfl, hR, hK⟩ := hrel
    by_cases hlt : (k : Int) < n
    · obtain ⟨c0, c1, ⟨x, cx⟩, ⟨y, cy⟩, fx, fy⟩ := round_facts b cb wb s a n w hM h0 hin hlt hR
      have he : (a + (k : Int)).toNat = a.toNat + k := by omega
      have hbc := hM.2.2.2.1
      have hbw := hM.2.2.2.2.1
      have hcw := hM.2.2.2.2.2.1
      have hr : a + (k : Int) < a + n := by omega
      generalize hL : s.width.length = len at *
      have HL := hid hL
      clear hL
      go_wp2
      go_roundw
      case rel => exact ⟨k + 1, by omega, by go_num, (post_part (by decide) hR).1, hK.trans (post_part (by decide) hR).2⟩
      case measure => simp [intOf]; omega
    · obtain rfl : n = (k : Int) := by omega
      have c2 := hR.1.cell (i := 2) rfl
      have f2 := hR.1.frozen 2
      have hs : (s.part a k 0).there = s.there := rfl
      rw [hs] at c2
      have HS := hid hs
      clear hs
      go_wp2
      go_ret
      have hp := post_there hR (wrap64 (s.there - (k : Int)))
      exact ⟨rfl, hp.1, hK.trans hp.2⟩
end

end Go.Proofs.YtmciclhifcjoiaaDoor
