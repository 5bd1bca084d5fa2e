/-
  The package alloc: what it is in the heap; end, start, Widest, New, fail.
-/
import Derived.Test.YtmciclhifcjoiaaDoorBoth
import Derived.Test.YtmciclhifcjoiaaDoorFlat
import Derived.Test.YtmciclhifcjoiaaDoorRowIn
import Derived.Deep.QuietTactic
import Derived.BigQuiet
namespace Go.Proofs.YtmciclhifcjoiaaDoor
open Go.RowKit

/-- A block that is taken. -/
structure Bk where
  pos : Int
  n : Int
  wd : Int

def Bk.cells (b : Bk) : List Value := [.int .i64 b.pos, .int .i64 b.n, .int .i64 b.wd]
theorem Bk.cells_length (b : Bk) : b.cells.length = 3 := rfl
def bk0 : Bk := ⟨0, 0, 0⟩

/-- The blocks lie one behind the other, from the cell a on, and end at the cell t or ahead of it. -/
def Chain : Int → List Bk → Int → Prop
  | a, [], t => a ≤ t
  | a, b :: l, t => a ≤ b.pos ∧ 1 ≤ b.n ∧ Chain (b.pos + b.n) l t

theorem Chain.le {l : List Bk} {t : Int} : ∀ {a : Int}, Chain a l t → a ≤ t := by
  induction l with
  | nil => intro a h; exact h
  | cons b l ih => intro a h; have := ih h.2.2; have := h.1; have := h.2.1; omega

/-- Where the block ahead of place i ends; where the block at place i begins. -/
def endOf (fr : Int) (l : List Bk) : Nat → Int
  | 0 => fr
  | i + 1 => (l.getD i bk0).pos + (l.getD i bk0).n
def startOf (l : List Bk) (t : Int) (i : Nat) : Int := if i = l.length then t else (l.getD i bk0).pos
def gapOf (fr : Int) (l : List Bk) (t : Int) (i : Nat) : Int := startOf l t i - endOf fr l i

theorem Chain.gap {l : List Bk} {t : Int} : ∀ {a : Int} {i : Nat}, Chain a l t → i ≤ l.length → a ≤ endOf a l i ∧ endOf a l i ≤ startOf l t i ∧ startOf l t i ≤ t := by
  induction l with
  | nil =>
    intro a i h hi
    obtain rfl : i = 0 := by simpa using hi
    have h : a ≤ t := h
    simp [endOf, startOf]
    omega
  | cons b l ih =>
    intro a i h hi
    obtain ⟨h1, h2, h3⟩ := h
    cases i with
    | zero =>
      have := h3.le
      simp [endOf, startOf]
      omega
    | succ j =>
      have := @ih _ j h3 (by simpa using hi)
      have e1 : endOf a (b :: l) (j + 1) = endOf (b.pos + b.n) l j := by
        cases j with
        | zero => simp [endOf]
        | succ j => simp [endOf]
      have e2 : startOf (b :: l) t (j + 1) = startOf l t j := by
        unfold startOf
        by_cases hj : j = l.length
        · rw [if_pos (by simp [hj]), if_pos hj]
        · rw [if_neg (by simp; omega), if_neg hj]; simp
      rw [e1, e2]
      omega

theorem Chain.elem {l : List Bk} {t : Int} : ∀ {a : Int} {i : Nat} {b : Bk}, Chain a l t → l[i]? = some b → a ≤ b.pos ∧ 1 ≤ b.n ∧ b.pos + b.n ≤ t := by
  induction l with
  | nil => intro a i b h hi; simp at hi
  | cons c l ih =>
    intro a i b h hi
    obtain ⟨h1, h2, h3⟩ := h
    cases i with
    | zero =>
      simp at hi
      subst hi
      have := h3.le
      omega
    | succ j =>
      have := ih h3 (by simpa using hi)
      omega

/-- An allocator: between which cells, which blocks. -/
structure AS where
  fr : Int
  til : Int
  l : List Bk

structure AS.ok (x : AS) : Prop where
  lo : 0 ≤ x.fr
  hi : x.til ≤ 9223372036854775807
  chain : Chain x.fr x.l x.til
  few : x.l.length ≤ 100000

def AllocAt (w : World) (base ab mb : Nat) (lv : Value) (x : AS) : Prop :=
  ab < base ∧ Blk w ab #[.pointer (some ⟨mb, 0, none⟩), .int .i64 x.fr, .int .i64 x.til, lv] 108 ∧ w.ownsRow base 66 3 lv x.l.length (x.l.flatMap Bk.cells)

theorem ownsRow_keeps {S : List Nat} {w w' : World} {base n size : Nat} {t : TypeId} {v : Value} {xs : List Value} (h : w.ownsRow base t size v n xs) (hK : Keeps S w w') (hS : ∀ x, x ∈ S → x < base) : w'.ownsRow base t size v n xs := by
  refine ⟨h.1, ?_⟩
  rcases h.2 with hn | ⟨q, cap, cur, rfl, hb, hgg, rest⟩
  · exact .inl hn
  · exact .inr ⟨q, cap, cur, rfl, hb, (hK.block q (Array.getElem?_eq_some_iff.1 hgg).1 (fun hm => by have := hS q hm; omega)).trans hgg, rest⟩

theorem AllocAt.keeps {S : List Nat} {w w' : World} {base ab mb : Nat} {lv : Value} {x : AS} (h : AllocAt w base ab mb lv x) (hK : Keeps S w w') (hab : ab ∉ S) (hS : ∀ x, x ∈ S → x < base) : AllocAt w' base ab mb lv x := by
  obtain ⟨h0, h1, h2⟩ := h
  exact ⟨h0, h1.keeps hK hab, ownsRow_keeps h2 hK hS⟩
theorem AllocAt.drewN {w : World} {base ab mb : Nat} {lv : Value} {x : AS} (h : AllocAt w base ab mb lv x) (n : Nat) : AllocAt (w.drewN n) base ab mb lv x := h
theorem AllocAt.lt {w : World} {base ab mb : Nat} {lv : Value} {x : AS} (h : AllocAt w base ab mb lv x) : ab < w.heap.size := by
  exact h.2.1.lt

/-- The slice of the blocks, and its cells. -/
theorem rows_at {w : World} {base : Nat} {t : TypeId} {lv : Value} {l : List Bk} (h : w.ownsRow base t 3 lv l.length (l.flatMap Bk.cells)) :
    ∃ a cap, lv = .slice a l.length cap ∧ (0 < l.length → ∃ g, a = some ⟨g, 0, none⟩ ∧ ∀ (i : Nat) (b : Bk), l[i]? = some b →
      w.cell? ⟨g, i * 3, none⟩ = some (.int .i64 b.pos) ∧ w.cell? ⟨g, i * 3 + 1, none⟩ = some (.int .i64 b.n) ∧ w.cell? ⟨g, i * 3 + 2, none⟩ = some (.int .i64 b.wd)) := by
  rcases h.2 with ⟨rfl, h0⟩ | ⟨g, cap, cur, rfl, hb, hg, hrest⟩
  · exact ⟨none, 0, by rw [h0], fun hp => by omega⟩
  · refine ⟨_, cap, rfl, fun _ => ⟨g, rfl, fun i b hi => ?_⟩⟩
    have key : ∀ j v, j < 3 → b.cells[j]? = some v → w.cell? ⟨g, i * 3 + j, none⟩ = some v := by
      intro j v hj hv
      have hf := flat_get Bk.cells_length l i j hj
      rw [hi] at hf
      have := World.ownsRow.cells h (g := g) rfl (i * 3 + j) v (by rw [hf]; exact hv)
      rw [Go.WideShapes.add_plain] at this
      simpa using this
    exact ⟨key 0 _ (by omega) rfl, key 1 _ (by omega) rfl, key 2 _ (by omega) rfl⟩

theorem ret_i64 {a b : Int} (h : a = b) : Ending.returned (.int .i64 a) = .returned (.int .i64 b) := by rw [h]

section
variable (base ab mb : Nat) (lv : Value) (x : AS) (w : World) (hA : AllocAt w base ab mb lv x) (hx : x.ok)
include hA hx

set_option maxHeartbeats 1000000 in
theorem end_any (i : Nat) (hi : i ≤ x.l.length) : Calls Tryd.prog 57 #[.pointer (some ⟨ab, 0, none⟩), .int .i64 i] w fun e w' => e = .returned (.int .i64 (endOf x.fr x.l i)) ∧ ∃ n, w' = w.drewN n := by
  have hg := hx.chain.gap hi
  have hlo := hx.lo
  have hhi := hx.hi
  have hlen := hx.few
  obtain ⟨_, hB, hO⟩ := hA
  have c1 := hB.cell (i := 1) rfl
  have c3 := hB.cell (i := 3) rfl
  obtain ⟨a, cap, rfl, hrows⟩ := rows_at hO
  cases i with
  | zero =>
    clear hO hrows
    go_enter Tryd.func57, Tryd.ntmps57
    go_wp2_with fail
    go_ret
    exact ⟨rfl, 0, rfl⟩
  | succ k =>
    obtain ⟨g, rfl, hr⟩ := hrows (by omega)
    obtain ⟨b, hb⟩ : ∃ b, x.l[k]? = some b := ⟨_, List.getElem?_eq_getElem (by omega)⟩
    obtain ⟨e0, e1, _⟩ := hr k b hb
    have he := hx.chain.elem hb
    have hE : endOf x.fr x.l (k + 1) = b.pos + b.n := by simp [endOf, List.getD, hb]
    rw [hE]
    have HB := hid hb
    clear hO hrows hr hE hb hg
    generalize x.l.length = len at *
    generalize b.pos = p at *
    generalize b.n = q at *
    have hk1 : (((k + 1 : Nat) : Int) == 0) = false := by simp; omega
    have hw : wrap64 (p + q) = p + q := by unfold wrap64; omega
    go_enter Tryd.func57, Tryd.ntmps57
    go_wp2_with fail
    go_quiet (fail)
    go_wp2_with fail
    go_ret
    exact ⟨ret_i64 (by first | rfl | exact hw | omega), _, rfl⟩

set_option maxHeartbeats 1000000 in
theorem start_any (i : Nat) (hi : i ≤ x.l.length) : Calls Tryd.prog 58 #[.pointer (some ⟨ab, 0, none⟩), .int .i64 i] w fun e w' => e = .returned (.int .i64 (startOf x.l x.til i)) ∧ w = w' := by
  have hlen := hx.few
  have hhi := hx.hi
  obtain ⟨_, hB, hO⟩ := hA
  have c2 := hB.cell (i := 2) rfl
  have c3 := hB.cell (i := 3) rfl
  obtain ⟨a, cap, rfl, hrows⟩ := rows_at hO
  by_cases hn : i = x.l.length
  · subst hn
    have hE : startOf x.l x.til x.l.length = x.til := by simp [startOf]
    rw [hE]
    clear hO hrows hE
    generalize x.l.length = len at *
    have hll : ((len : Int) == (len : Int)) = true := by simp
    go_enter Tryd.func58, Tryd.ntmps58
    go_wp2_with fail
    go_ret
    exact ⟨rfl, rfl⟩
  · obtain ⟨g, rfl, hr⟩ := hrows (by omega)
    obtain ⟨b, hb⟩ : ∃ b, x.l[i]? = some b := ⟨_, List.getElem?_eq_getElem (by omega)⟩
    obtain ⟨e0, _, _⟩ := hr i b hb
    have hE : startOf x.l x.til i = b.pos := by simp [startOf, hn, List.getD, hb]
    rw [hE]
    have HB := hid hb
    clear hO hrows hr hE hb
    generalize x.l.length = len at *
    generalize b.pos = p at *
    have hll : ((i : Int) == (len : Int)) = false := by simp; omega
    go_enter Tryd.func58, Tryd.ntmps58
    go_wp2_with fail
    go_ret
    exact ⟨rfl, rfl⟩
end

theorem max_if (a b : Int) : Value.int .i64 (if a < b then b else a) = Value.int .i64 (max a b) := by
  congr 1
  omega

/-- The longest free row. -/
def widest (x : AS) : Nat → Int
  | 0 => 0
  | k + 1 => max (widest x k) (gapOf x.fr x.l x.til k)

theorem widest_range {x : AS} (hx : x.ok) : ∀ k : Nat, k ≤ x.l.length + 1 → 0 ≤ widest x k ∧ widest x k ≤ x.til
  | 0, _ => by
    have := hx.chain.le
    have := hx.lo
    simp [widest]; omega
  | k + 1, hk => by
    have h1 := widest_range hx k (by omega)
    have h2 := hx.chain.gap (i := k) (by omega)
    have := hx.lo
    unfold widest gapOf
    omega

set_option maxHeartbeats 2000000 in
theorem widest_any (base ab mb : Nat) (lv : Value) (x : AS) (w : World) (hA : AllocAt w base ab mb lv x) (hx : x.ok) :
    Calls Tryd.prog 34 #[.pointer (some ⟨ab, 0, none⟩)] w fun e w' => e = .returned (.int .i64 (widest x (x.l.length + 1))) ∧ Keeps [] w w' := by
  have HA := hid hA
  have HX := hid hx
  have hlen := hx.few
  have hhi := hx.hi
  clear hA hx
  generalize hL : x.l.length = len at *
  have HL := hid hL
  clear hL
  go_enter Tryd.func34, Tryd.ntmps34
  go_wp2_with fail
  go_loopw [3, 4] (fun m i wr => ∃ k : Nat, k ≤ len + 1 ∧ i = .int .i64 k ∧ m = .int .i64 (widest x k) ∧ Keeps [] w wr) (fun _ i _ => (len + 1 - (intOf i).toNat))
  case atStart => exact ⟨0, by omega, rfl, rfl, Keeps.refl _ _⟩
  case round =>
    obtain ⟨k, hk, rfl, rfl, hKR⟩ := hrel
    have hAR := HA.out.keeps hKR (by simp) (by simp)
    obtain ⟨_, hB, hO⟩ := hAR
    have c3 := hB.cell (i := 3) rfl
    obtain ⟨a, cap, rfl, hrows⟩ := rows_at hO
    rw [HL.out] at c3
    have hAR := hid (HA.out.keeps hKR (by simp) (by simp))
    clear hO hrows hB
    by_cases hlt : k ≤ len
    · have hw := widest_range HX.out k (by rw [HL.out]; omega)
      have hgp := HX.out.chain.gap (i := k) (by rw [HL.out]; omega)
      have hlo := HX.out.lo
      have HM := hid (show widest x (k + 1) = max (widest x k) (startOf x.l x.til k - endOf x.fr x.l k) from rfl)
      go_wp2_with fail
      refine (start_any base ab mb _ x _ hAR.out HX.out k (by rw [HL.out]; omega)).mono ?_
      rintro e w1 ⟨rfl, rfl⟩
      go_wp2_with fail
      refine (end_any base ab mb _ x _ hAR.out HX.out k (by rw [HL.out]; omega)).mono ?_
      rintro e w1 ⟨rfl, n, rfl⟩
      generalize startOf x.l x.til k = st at *
      generalize endOf x.fr x.l k = en at *
      generalize widest x k = wi at *
      go_wp2_with fail
      go_roundw
      case rel => exact ⟨k + 1, by omega, by go_num, by rw [HM.out]; exact max_if _ _, hKR.drewN n⟩
      case measure => simp [intOf]; omega
    · obtain rfl : k = len + 1 := by omega
      go_wp2_with fail
      go_ret
      exact ⟨rfl, hKR⟩

/-- The layer's name. -/
def allocS : ByteArray := ⟨#[97, 108, 108, 111, 99]⟩

set_option maxHeartbeats 400000 in
theorem afail_any (n : Int) (t : TypeId) (u : Value) (w : World) :
    Calls Tryd.prog 56 #[.int .i64 n, .iface t u] w fun e w' => e = .returned (.iface 93 (.pointer (some ⟨w.heap.size, 0, none⟩))) ∧ w.alloc (.cells #[.string allocS, .int .i64 n, .iface t u] 97) = w' := by
  go_enter Tryd.func56, Tryd.ntmps56
  go_wp2
  go_ret
  exact ⟨rfl, rfl⟩

/-- New that goes. -/
theorem anew_ok (mb : Nat) (f t : Int) (w : World) (h0 : 0 ≤ f) (h1 : f ≤ t) :
    Calls Tryd.prog 37 #[.pointer (some ⟨mb, 0, none⟩), .int .i64 f, .int .i64 t] w fun e w' => e = .returned (.tuple #[.pointer (some ⟨w.heap.size, 0, none⟩), .nilIface]) ∧ AllocAt w' w'.heap.size w.heap.size mb (.slice none 0 0) ⟨f, t, []⟩ ∧ Keeps [] w w' ∧ w'.heap.size = w.heap.size + 1 := by
  have d1 : decide (f < 0) = false := by simp; omega
  have d2 : decide (t < f) = false := by simp; omega
  go_enter Tryd.func37, Tryd.ntmps37
  go_wp2_with fail
  go_ret2
  exact ⟨rfl, ⟨by simp, Blk.fresh _ _ _, World.ownsRow_nil _ _ _ _⟩, (Keeps.refl _ _).alloc _, by simp⟩

theorem anew_arg (v : Option Addr) (f t : Int) (w : World) (h : v = none ∨ f < 0 ∨ t < f) :
    Calls Tryd.prog 37 #[.pointer v, .int .i64 f, .int .i64 t] w fun e w' =>
      e = .returned (.tuple #[.pointer none, .iface 93 (.pointer (some ⟨w.heap.size, 0, none⟩))]) ∧ w.alloc (.cells #[.string allocS, .int .i64 0, .iface 30 (.int .i64 1)] 97) = w' := by
  cases v with
  | none =>
    go_enter Tryd.func37, Tryd.ntmps37
    go_wp2_with fail
    refine (afail_any _ _ _ _).mono ?_
    rintro e w' ⟨rfl, rfl⟩
    go_wp2_with fail
    go_ret2
    exact ⟨rfl, rfl⟩
  | some p =>
    by_cases hf : f < 0
    · have d1 : decide (f < 0) = true := by simp; omega
      go_enter Tryd.func37, Tryd.ntmps37
      go_wp2_with fail
      refine (afail_any _ _ _ _).mono ?_
      rintro e w' ⟨rfl, rfl⟩
      go_wp2_with fail
      go_ret2
      exact ⟨rfl, rfl⟩
    · have ht : t < f := by simp at h; omega
      have d1 : decide (f < 0) = false := by simp; omega
      have d2 : decide (t < f) = true := by simp; omega
      go_enter Tryd.func37, Tryd.ntmps37
      go_wp2_with fail
      refine (afail_any _ _ _ _).mono ?_
      rintro e w' ⟨rfl, rfl⟩
      go_wp2_with fail
      go_ret2
      exact ⟨rfl, rfl⟩
end Go.Proofs.YtmciclhifcjoiaaDoor
