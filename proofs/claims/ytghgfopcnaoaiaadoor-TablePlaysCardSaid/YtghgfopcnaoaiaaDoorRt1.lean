/-
  The document's table (distaffref11): what it is in the heap; find, forget, no.
-/
import Derived.Test.YtghgfopcnaoaiaaDoorTab5
import Derived.Test.YtghgfopcnaoaiaaDoorFresh
namespace Go.Proofs.YtghgfopcnaoaiaaDoor
open Go.RowKit

def TRow.rcells (r : TRow) : List Value := [.int .u64 r.id, .int .i64 r.state, .int .u64 r.home, .int .u64 r.value, .int .u64 r.joiner, .bool r.loose, .bool r.stepping, .bool r.reaped, .int .i64 r.times]
theorem TRow.rcells_length (r : TRow) : r.rcells.length = 9 := rfl

/-- The document's table: who has an id has the place. -/
def RTabAt (w : World) (b rb : Nat) (l : List TRow) : Prop :=
  Blk w b #[.slice (some ⟨rb, 0, none⟩) l.length l.length] 83 ∧ Blk w rb (flatA TRow.rcells l) 93 ∧ b ≠ rb ∧ l.length ≤ 64

theorem RTabAt.keeps {S : List Nat} {w w' : World} {b rb : Nat} {l : List TRow} (h : RTabAt w b rb l) (k : Keeps S w w') (h1 : b ∉ S) (h2 : rb ∉ S) : RTabAt w' b rb l :=
  ⟨h.1.keeps k h1, h.2.1.keeps k h2, h.2.2⟩
theorem RTabAt.lt {w : World} {b rb : Nat} {l : List TRow} (h : RTabAt w b rb l) : b < w.heap.size ∧ rb < w.heap.size := ⟨h.1.lt, h.2.1.lt⟩
theorem RTabAt.cell {w : World} {b rb : Nat} {l : List TRow} (h : RTabAt w b rb l) {i j : Nat} {r : TRow} {v : Value} (hr : l[i]? = some r) (hj : j < 9) (hv : r.rcells[j]? = some v) : w.cell? ⟨rb, i * 9 + j, none⟩ = some v :=
  h.2.1.cell (flatA_get TRow.rcells_length hj hr hv)
theorem RTabAt.set {w : World} {b rb : Nat} {l : List TRow} (h : RTabAt w b rb l) {i j : Nat} {r r' : TRow} {v : Value} (hr : l[i]? = some r) (hj : j < 9) (hv : r'.rcells = r.rcells.set j v) :
    RTabAt (w.setCell ⟨rb, i * 9 + j, none⟩ v) b rb (l.set i r') := by
  refine ⟨?_, ?_, h.2.2.1, ?_⟩
  · rw [List.length_set]; exact h.1.other (by simpa using h.2.2.1.symm) _
  · have := h.2.1.set (i * 9 + j) v
    rw [flatA_set TRow.rcells_length hj hr hv] at this
    exact this
  · rw [List.length_set]; exact h.2.2.2

/-- A table whose place i is r. -/
def RPutAt (w : World) (b rb : Nat) (l : List TRow) (i : Nat) (r : TRow) : Prop := i < l.length ∧ RTabAt w b rb (l.set i r)
theorem RTabAt.start {w : World} {b rb : Nat} {l : List TRow} (h : RTabAt w b rb l) {i : Nat} {r : TRow} (hr : l[i]? = some r) : RPutAt w b rb l i r := by
  refine ⟨(List.getElem?_eq_some_iff.1 hr).1, ?_⟩
  rw [set_same hr]
  exact h
theorem RPutAt.put {w : World} {b rb : Nat} {l : List TRow} {i : Nat} {r : TRow} (h : RPutAt w b rb l i r) (j : Nat) (r' : TRow) (v : Value) (hj : j < 9) (hv : r'.rcells = r.rcells.set j v) :
    RPutAt (w.setCell ⟨rb, i * 9 + j, none⟩ v) b rb l i r' := by
  refine ⟨h.1, ?_⟩
  have := h.2.set (i := i) (j := j) (r := r) (r' := r') (v := v) (by simp [h.1]) hj hv
  rwa [List.set_set] at this
/-- Fields that the document's table does not have may be anything. -/
theorem RPutAt.turn {w : World} {b rb : Nat} {l : List TRow} {i : Nat} {r : TRow} (h : RPutAt w b rb l i r) (r' : TRow) (hr : r'.rcells = r.rcells) : RPutAt w b rb l i r' := by
  refine ⟨h.1, ?_, ?_, h.2.2.2.1, ?_⟩
  · have := h.2.1
    rw [List.length_set] at this ⊢
    exact this
  · have := h.2.2.1
    have e : flatA TRow.rcells (l.set i r') = flatA TRow.rcells (l.set i r) := by
      unfold flatA
      congr 1
      have e2 : ∀ (l : List TRow) (i : Nat), (l.set i r').flatMap TRow.rcells = (l.set i r).flatMap TRow.rcells := by
        intro l
        induction l with
        | nil => intro i; rfl
        | cons a l ih =>
          intro i
          cases i with
          | zero => simp [hr]
          | succ i => simp [ih i]
      exact e2 l i
    rw [e]
    exact this
  · have := h.2.2.2.2
    rw [List.length_set] at this ⊢
    exact this

/-- Who has an id has the place; nobody has what is free. -/
structure Tg (l : List TRow) : Prop where
  rows : ∀ (i : Nat) (r : TRow), l[i]? = some r → (r.taken = true → r.id ≠ 0 ∧ 0 ≤ r.id ∧ r.id % 64 = (i : Int)) ∧ (r.taken = false → r.id = 0 ∧ r.reaped = false) ∧ 0 ≤ r.times ∧ 0 ≤ r.value ∧ 0 ≤ r.home

/-- Whom 'find' finds. -/
theorem Tg.find_some {l : List TRow} (h : Tg l) {id : Int} {i : Nat} (hi : idx l id = some i) : id ≠ 0 ∧ ∃ r, l[i]? = some r ∧ r.id = id ∧ ∀ (j : Nat) (q : TRow), j < i → l[j]? = some q → q.id ≠ id := by
  obtain ⟨r, hr, ht, he⟩ := idx_some hi
  obtain ⟨h1, h2, h3⟩ := (h.rows i r hr).1 ht
  refine ⟨by rw [← he]; exact h1, r, hr, he, fun j q hj hq hqe => ?_⟩
  have hb := h.rows j q hq
  cases hqt : q.taken with
  | true =>
    have := hb.1 hqt
    omega
  | false =>
    have := hb.2.1 hqt
    omega
theorem Tg.find_none {l : List TRow} (h : Tg l) {id : Int} (h0 : id ≠ 0) (hi : idx l id = none) : ∀ (j : Nat) (q : TRow), l[j]? = some q → q.id ≠ id := by
  intro j q hq he
  have hb := h.rows j q hq
  cases hqt : q.taken with
  | true =>
    have h1 := hb.1 hqt
    have hj : (id % 64).toNat = j := by omega
    unfold idx at hi
    rw [hj, hq] at hi
    simp [hqt, he] at hi
  | false =>
    have := hb.2.1 hqt
    omega

def rrowPtr (rb : Nat) : Option Nat → Value
  | some i => .pointer (some ⟨rb, i * 9, none⟩)
  | none => .pointer none

section
variable (b rb : Nat) (l : List TRow) (id : Int) (w : World) (hT : RTabAt w b rb l) (hg : Tg l) (h0 : 0 ≤ id)
include hT hg h0

omit h0 in
set_option maxHeartbeats 1000000 in
theorem find_any : Calls Tryd.prog 44 #[.pointer (some ⟨b, 0, none⟩), .int .u64 id] w fun e w' => e = .returned (rrowPtr rb (idx l id)) ∧ w = w' := by
  have hlen := hT.2.2.2
  have c0 := hT.1.cell (i := 0) rfl
  have HT := hid hT
  generalize hL : l.length = n at *
  have HL := hid hL
  clear hL hT
  by_cases hz : id = 0
  · have HI : Hid (idx l id = none) := by
      cases hi : idx l id with
      | none => exact hid rfl
      | some i => exact absurd hz (hg.find_some hi).1
    rw [HI.out]
    have hb : (id != 0) = false := by simp [hz]
    clear hz
    go_enter Tryd.func44, Tryd.ntmps44
    go_wp2_with fail
    refine wp_loop_rounds 1 ?_
    rw [rounds_succ]
    by_cases hn : 0 < n
    · go_wp2_with fail
      go_ret
      exact ⟨rfl, rfl⟩
    · obtain rfl : n = 0 := by omega
      go_wp2_with fail
      go_ret
      exact ⟨rfl, rfl⟩
  · have hb : (id != 0) = true := by simp [hz]
    cases hi : idx l id with
    | none =>
      have HN := hid (hg.find_none hz hi)
      clear hz hi
      go_enter Tryd.func44, Tryd.ntmps44
      go_wp2_with fail
      go_loop [5] (fun i => ∃ k : Nat, k ≤ n ∧ i = .int .i64 k) (fun i => (n - (intOf i).toNat))
      case atStart => exact ⟨0, by omega, rfl⟩
      case round =>
        obtain ⟨k, hk, rfl⟩ := hrel
        by_cases hlt : k < n
        · obtain ⟨r, hr⟩ : ∃ r, l[k]? = some r := ⟨_, List.getElem?_eq_getElem (by have := HL.out; omega)⟩
          have e0 : w.cell? ⟨rb, k * 9, none⟩ = some (.int .u64 r.id) := HT.out.cell (j := 0) hr (by omega) rfl
          have hne : (r.id == id) = false := by simpa using HN.out k r hr
          clear hr
          generalize r.id = q at *
          go_wp2_with fail
          go_round
          case rel => exact ⟨k + 1, by omega, by go_num⟩
          case measure => simp [intOf]; omega
        · obtain rfl : k = n := by omega
          go_wp2_with fail
          go_ret
          exact ⟨rfl, rfl⟩
    | some i =>
      obtain ⟨_, r0, hr0, he0, hbef⟩ := hg.find_some hi
      have HN := hid hbef
      have HR0 := hid hr0
      have HE0 := hid he0
      have hin : i < n := by have := (List.getElem?_eq_some_iff.1 hr0).1; have := HL.out; omega
      clear hz hi hbef hr0 he0
      go_enter Tryd.func44, Tryd.ntmps44
      go_wp2_with fail
      go_loop [5] (fun v => ∃ k : Nat, k ≤ i ∧ v = .int .i64 k) (fun v => (i + 1 - (intOf v).toNat))
      case atStart => exact ⟨0, by omega, rfl⟩
      case round =>
        obtain ⟨k, hk, rfl⟩ := hrel
        have hkn : k < n := by omega
        by_cases hlt : k < i
        · obtain ⟨r, hr⟩ : ∃ r, l[k]? = some r := ⟨_, List.getElem?_eq_getElem (by have := HL.out; omega)⟩
          have e0 : w.cell? ⟨rb, k * 9, none⟩ = some (.int .u64 r.id) := HT.out.cell (j := 0) hr (by omega) rfl
          have hne : (r.id == id) = false := by simpa using HN.out k r hlt hr
          clear hr
          generalize r.id = q at *
          go_wp2_with fail
          go_round
          case rel => exact ⟨k + 1, by omega, by go_num⟩
          case measure => simp [intOf]; omega
        · obtain rfl : k = i := by omega
          have e0 : w.cell? ⟨rb, k * 9, none⟩ = some (.int .u64 r0.id) := HT.out.cell (j := 0) HR0.out (by omega) rfl
          rw [HE0.out] at e0
          have hne : (id == id) = true := by simp
          go_wp2_with fail
          go_ret
          exact ⟨rfl, rfl⟩
end

theorem rno_any (k : Int) (w : World) : Calls Tryd.prog 50 #[.int .i64 k] w (NoPost w tabS 0 k) := by
  go_enter Tryd.func50, Tryd.ntmps50
  go_wp2_with fail
  refine (no_any tabS 0 k _).mono ?_
  rintro e w' ⟨u, rfl, hF, hK⟩
  go_wp2_with fail
  go_ret
  exact ⟨u, rfl, hF, hK⟩

section
variable (b rb : Nat) (l : List TRow) (i : Nat) (r : TRow) (w : World) (hT : RTabAt w b rb l) (hr : l[i]? = some r)
include hT hr

set_option maxHeartbeats 1000000 in
theorem rforget_any : Calls Tryd.prog 51 #[.pointer (some ⟨rb, i * 9, none⟩)] w fun e w' => e = .returned (.tuple #[]) ∧ RTabAt w' b rb (l.set i r.free) ∧ Keeps [rb] w w' := by
  have c0 : w.cell? ⟨rb, i * 9, none⟩ = _ := hT.cell (j := 0) hr (by omega) rfl
  have c1 := hT.cell (j := 1) hr (by omega) rfl
  have c2 := hT.cell (j := 2) hr (by omega) rfl
  have c3 := hT.cell (j := 3) hr (by omega) rfl
  have c4 := hT.cell (j := 4) hr (by omega) rfl
  have c5 := hT.cell (j := 5) hr (by omega) rfl
  have c6 := hT.cell (j := 6) hr (by omega) rfl
  have c7 := hT.cell (j := 7) hr (by omega) rfl
  have f1 := fun j => hT.2.1.frozen j
  have HR := hid hr
  clear hr
  go_enter Tryd.func51, Tryd.ntmps51
  go_wp2
  go_end0
  refine ⟨rfl, ?_, ((((((((Keeps.refl _ _).set (by simp) _).set (by simp) _).set (by simp) _).set (by simp) _).set (by simp) _).set (by simp) _).set (by simp) _).set (by simp) _⟩
  have h1 := (hT.start HR.out).put 0 { r with id := 0 } (.int .u64 0) (by omega) rfl
  have h2 := h1.put 1 { r with id := 0, state := 0 } (.int .i64 0) (by omega) rfl
  have h3 := h2.put 2 { r with id := 0, state := 0, home := 0 } (.int .u64 0) (by omega) rfl
  have h4 := h3.put 3 { r with id := 0, state := 0, home := 0, value := 0 } (.int .u64 0) (by omega) rfl
  have h5 := h4.put 4 { r with id := 0, state := 0, home := 0, value := 0, joiner := 0 } (.int .u64 0) (by omega) rfl
  have h6 := h5.put 5 { r with id := 0, state := 0, home := 0, value := 0, joiner := 0, loose := false } (.bool false) (by omega) rfl
  have h7 := h6.put 6 { r with id := 0, state := 0, home := 0, value := 0, joiner := 0, loose := false, stepping := false } (.bool false) (by omega) rfl
  have h8 := h7.put 7 { r with id := 0, state := 0, home := 0, value := 0, joiner := 0, loose := false, stepping := false, reaped := false } (.bool false) (by omega) rfl
  exact (h8.turn r.free rfl).2
end
end Go.Proofs.YtghgfopcnaoaiaaDoor
