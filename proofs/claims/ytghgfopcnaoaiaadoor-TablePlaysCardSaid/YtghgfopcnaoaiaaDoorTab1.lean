/-
  The package table: a table in the heap; of, forget, alive, fail.
-/
import Derived.Test.YtghgfopcnaoaiaaDoorFlat
import Derived.Test.YtghgfopcnaoaiaaDoorDoc
namespace Go.Proofs.YtghgfopcnaoaiaaDoor
open Go.RowKit

/-- A place: how often it was taken, whether it is, whether its thread was reaped; the thread. -/
structure TRow where
  times : Int
  taken : Bool
  reaped : Bool
  id : Int
  state : Int
  home : Int
  value : Int
  joiner : Int
  loose : Bool
  stepping : Bool

def TRow.cells (r : TRow) : List Value := [.int .u64 r.times, .bool r.taken, .bool r.reaped, .int .u64 r.id, .int .i64 r.state, .int .u64 r.home, .int .u64 r.value, .int .u64 r.joiner, .bool r.loose, .bool r.stepping]
theorem TRow.cells_length (r : TRow) : r.cells.length = 10 := rfl

def TableAt (w : World) (b rb : Nat) (l : List TRow) : Prop :=
  Blk w b #[.slice (some ⟨rb, 0, none⟩) l.length l.length] 67 ∧ Blk w rb (flatA TRow.cells l) 78 ∧ b ≠ rb ∧ l.length ≤ 64

theorem TableAt.keeps {S : List Nat} {w w' : World} {b rb : Nat} {l : List TRow} (h : TableAt w b rb l) (k : Keeps S w w') (h1 : b ∉ S) (h2 : rb ∉ S) : TableAt w' b rb l :=
  ⟨h.1.keeps k h1, h.2.1.keeps k h2, h.2.2⟩
theorem TableAt.lt {w : World} {b rb : Nat} {l : List TRow} (h : TableAt w b rb l) : b < w.heap.size ∧ rb < w.heap.size := ⟨h.1.lt, h.2.1.lt⟩

theorem TableAt.cell {w : World} {b rb : Nat} {l : List TRow} (h : TableAt w b rb l) {i j : Nat} {r : TRow} {v : Value} (hr : l[i]? = some r) (hj : j < 10) (hv : r.cells[j]? = some v) : w.cell? ⟨rb, i * 10 + j, none⟩ = some v :=
  h.2.1.cell (flatA_get TRow.cells_length hj hr hv)

theorem TableAt.set {w : World} {b rb : Nat} {l : List TRow} (h : TableAt w b rb l) {i j : Nat} {r r' : TRow} {v : Value} (hr : l[i]? = some r) (hj : j < 10) (hv : r'.cells = r.cells.set j v) :
    TableAt (w.setCell ⟨rb, i * 10 + j, none⟩ v) b rb (l.set i r') := by
  refine ⟨?_, ?_, h.2.2.1, ?_⟩
  · rw [List.length_set]; exact h.1.other (by simpa using h.2.2.1.symm) _
  · have := h.2.1.set (i * 10 + j) v
    rw [flatA_set TRow.cells_length hj hr hv] at this
    exact this
  · rw [List.length_set]; exact h.2.2.2

theorem set_same {α : Type} {l : List α} {i : Nat} {r : α} (hr : l[i]? = some r) : l.set i r = l := by
  obtain ⟨hi, he⟩ := List.getElem?_eq_some_iff.1 hr
  rw [← he]
  exact List.set_getElem_self hi

/-- A table whose place i is r. -/
def PutAt (w : World) (b rb : Nat) (l : List TRow) (i : Nat) (r : TRow) : Prop := i < l.length ∧ TableAt w b rb (l.set i r)

theorem TableAt.start {w : World} {b rb : Nat} {l : List TRow} (h : TableAt w b rb l) {i : Nat} {r : TRow} (hr : l[i]? = some r) : PutAt w b rb l i r := by
  refine ⟨(List.getElem?_eq_some_iff.1 hr).1, ?_⟩
  rw [set_same hr]
  exact h

/-- One field of a place is written. -/
theorem PutAt.put {w : World} {b rb : Nat} {l : List TRow} {i : Nat} {r : TRow} (h : PutAt w b rb l i r) (j : Nat) (r' : TRow) (v : Value) (hj : j < 10) (hv : r'.cells = r.cells.set j v) :
    PutAt (w.setCell ⟨rb, i * 10 + j, none⟩ v) b rb l i r' := by
  refine ⟨h.1, ?_⟩
  have := h.2.set (i := i) (j := j) (r := r) (r' := r') (v := v) (by simp [h.1]) hj hv
  rwa [List.set_set] at this

/-- Which place an id has; none: nobody has it. -/
def idx (l : List TRow) (id : Int) : Option Nat :=
  match l[(id % 64).toNat]? with
  | some r => if r.taken = true ∧ r.id = id then some (id % 64).toNat else none
  | none => none

def rowPtr (rb : Nat) : Option Nat → Value
  | some i => .pointer (some ⟨rb, i * 10, none⟩)
  | none => .pointer none

section
variable (b rb : Nat) (l : List TRow) (id : Int) (w : World) (hT : TableAt w b rb l) (h0 : 0 ≤ id)
include hT h0

set_option maxHeartbeats 1000000 in
theorem of_any : Calls Tryd.prog 34 #[.pointer (some ⟨b, 0, none⟩), .int .u64 id] w fun e w' => e = .returned (rowPtr rb (idx l id)) ∧ w = w' := by
  have hl := hT.2.2.2
  have c0 := hT.1.cell (i := 0) rfl
  have HI := hid (show ∀ v, v = rowPtr rb (idx l id) → Ending.returned v = .returned (rowPtr rb (idx l id)) from fun v h => by rw [h])
  have hp0 : 0 ≤ id % 64 := by omega
  have hp1 : id % 64 < 64 := by omega
  by_cases hin : id % 64 < (l.length : Int)
  · obtain ⟨r, hr⟩ : ∃ r, l[(id % 64).toNat]? = some r := ⟨_, List.getElem?_eq_getElem (by omega)⟩
    have c1 := hT.cell (j := 1) hr (by omega) rfl
    have c3 := hT.cell (j := 3) hr (by omega) rfl
    have HR := hid hr
    have d1 : decide ((l.length : Int) ≤ id % 64) = false := by simp; omega
    cases ht : r.taken with
    | false =>
      have hn := hid (show idx l id = none by unfold idx; rw [HR.out]; simp [ht])
      rw [hn.out]
      rw [ht] at c1
      clear hr ht HI c3
      generalize l.length = n at *
      go_enter Tryd.func34, Tryd.ntmps34
      go_wp2
      go_ret
      exact ⟨rfl, rfl⟩
    | true =>
      rw [ht] at c1
      by_cases hid2 : r.id = id
      · have hn := hid (show idx l id = some (id % 64).toNat by unfold idx; rw [HR.out]; simp [ht, hid2])
        rw [hn.out]
        rw [hid2] at c3
        have hne : (id != id) = false := by simp
        clear hr ht HI hid2
        generalize l.length = n at *
        go_enter Tryd.func34, Tryd.ntmps34
        go_wp2
        go_ret
        exact ⟨rfl, rfl⟩
      · have hn := hid (show idx l id = none by unfold idx; rw [HR.out]; simp [hid2])
        rw [hn.out]
        have hne : (r.id != id) = true := by simpa using hid2
        clear hr ht HI hid2
        generalize l.length = n at *
        generalize r.id = q at *
        go_enter Tryd.func34, Tryd.ntmps34
        go_wp2
        go_ret
        exact ⟨rfl, rfl⟩
  · have hn : idx l id = none := by
      unfold idx
      rw [List.getElem?_eq_none (by omega)]
    rw [hn]
    go_enter Tryd.func34, Tryd.ntmps34
    go_wp2
    go_ret
    exact ⟨rfl, rfl⟩
end

theorem idx_some {l : List TRow} {id : Int} {i : Nat} (h : idx l id = some i) : ∃ r, l[i]? = some r ∧ r.taken = true ∧ r.id = id := by
  unfold idx at h
  cases hr : l[(id % 64).toNat]? with
  | none => rw [hr] at h; cases h
  | some r =>
    rw [hr] at h
    by_cases hc : r.taken = true ∧ r.id = id
    · simp only [if_pos hc] at h
      cases h
      exact ⟨r, hr, hc⟩
    · simp only [if_neg hc] at h
      cases h

/-- A place that is free. -/
def TRow.free (r : TRow) : TRow := { r with taken := false, reaped := false, id := 0, state := 0, home := 0, value := 0, joiner := 0, loose := false, stepping := false }

/-- The layer's name. -/
def tabS : ByteArray := ⟨#[116, 97, 98, 108, 101]⟩

theorem tfail_any (t : TypeId) (u : Value) (w : World) :
    Calls Tryd.prog 31 #[.iface t u] w fun e w' => e = .returned (.iface 72 (.pointer (some ⟨w.heap.size, 0, none⟩))) ∧ w.alloc (.cells #[.string tabS, .int .i64 0, .iface t u] 76) = w' := by
  go_enter Tryd.func31, Tryd.ntmps31
  go_wp2
  go_ret
  exact ⟨rfl, rfl⟩

/-- The states of those that live. -/
def aliveB (s : Int) : Bool := s == 1 || (s == 2 || s == 3)

set_option maxHeartbeats 400000 in
theorem alive_any (s : Int) (w : World) : Calls Tryd.prog 36 #[.int .i64 s] w fun e w' => e = .returned (.bool (aliveB s)) ∧ w = w' := by
  by_cases h1 : s = 1
  · subst h1
    go_enter Tryd.func36, Tryd.ntmps36
    go_wp2
    go_ret
    exact ⟨rfl, rfl⟩
  · by_cases h2 : s = 2
    · subst h2
      go_enter Tryd.func36, Tryd.ntmps36
      go_wp2
      go_ret
      exact ⟨rfl, rfl⟩
    · by_cases h3 : s = 3
      · subst h3
        go_enter Tryd.func36, Tryd.ntmps36
        go_wp2
        go_ret
        exact ⟨rfl, rfl⟩
      · have b1 : (s == 1) = false := by simpa using h1
        have b2 : (s == 2) = false := by simpa using h2
        have b3 : (s == 3) = false := by simpa using h3
        have hh := hid (show aliveB s = false by simp [aliveB, b1, b2, b3])
        rw [hh.out]
        go_enter Tryd.func36, Tryd.ntmps36
        go_wp2
        go_ret
        exact ⟨rfl, rfl⟩

section
variable (b rb : Nat) (l : List TRow) (i : Nat) (r : TRow) (w : World) (hT : TableAt w b rb l) (hr : l[i]? = some r)
include hT hr

set_option maxHeartbeats 1000000 in
theorem forget_any : Calls Tryd.prog 35 #[.pointer (some ⟨rb, i * 10, none⟩)] w fun e w' => e = .returned (.tuple #[]) ∧ TableAt w' b rb (l.set i r.free) ∧ Keeps [rb] w w' := by
  have c1 := hT.cell (j := 1) hr (by omega) rfl
  have c2 := hT.cell (j := 2) hr (by omega) rfl
  have c3 := hT.cell (j := 3) hr (by omega) rfl
  have c4 := hT.cell (j := 4) hr (by omega) rfl
  have c5 := hT.cell (j := 5) hr (by omega) rfl
  have c6 := hT.cell (j := 6) hr (by omega) rfl
  have c7 := hT.cell (j := 7) hr (by omega) rfl
  have c8 := hT.cell (j := 8) hr (by omega) rfl
  have c9 := hT.cell (j := 9) hr (by omega) rfl
  have f1 := fun j => hT.2.1.frozen j
  have HR := hid hr
  clear hr
  go_enter Tryd.func35, Tryd.ntmps35
  go_wp2
  go_end0
  refine ⟨rfl, ?_, ((((((((((Keeps.refl _ _).set (by simp) _).set (by simp) _).set (by simp) _).set (by simp) _).set (by simp) _).set (by simp) _).set (by simp) _).set (by simp) _).set (by simp) _)⟩
  have h1 := (hT.start HR.out).put 1 { r with taken := false } (.bool false) (by omega) rfl
  have h2 := h1.put 2 { r with taken := false, reaped := false } (.bool false) (by omega) rfl
  have h3 := h2.put 3 { r with taken := false, reaped := false, id := 0 } (.int .u64 0) (by omega) rfl
  have h4 := h3.put 4 { r with taken := false, reaped := false, id := 0, state := 0 } (.int .i64 0) (by omega) rfl
  have h5 := h4.put 5 { r with taken := false, reaped := false, id := 0, state := 0, home := 0 } (.int .u64 0) (by omega) rfl
  have h6 := h5.put 6 { r with taken := false, reaped := false, id := 0, state := 0, home := 0, value := 0 } (.int .u64 0) (by omega) rfl
  have h7 := h6.put 7 { r with taken := false, reaped := false, id := 0, state := 0, home := 0, value := 0, joiner := 0 } (.int .u64 0) (by omega) rfl
  have h8 := h7.put 8 { r with taken := false, reaped := false, id := 0, state := 0, home := 0, value := 0, joiner := 0, loose := false } (.bool false) (by omega) rfl
  exact (h8.put 9 r.free (.bool false) (by omega) rfl).2
end
end Go.Proofs.YtghgfopcnaoaiaaDoor
