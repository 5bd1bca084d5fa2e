/-
  The document's allocator: Put of a place where no block begins; Get of what is no row, or has no room.
-/
import Derived.Test.YtmciclhifcjoiaaDoorKin
namespace Go.Proofs.YtmciclhifcjoiaaDoor
open Go.RowKit

set_option maxHeartbeats 1000000 in
theorem rput_none (base rab rb : Nat) (lv : Value) (x : AS) (p : Int) (w : World) (hA : RAllocAt w base rab rb lv x) (hx : x.ok) (hno : ∀ (i : Nat) (r : Bk), x.l[i]? = some r → r.pos ≠ p) :
    Calls Tryd.prog 40 #[.pointer (some ⟨rab, 0, none⟩), .int .i64 p] w (NoPost w allocS p 4) := by
  obtain ⟨hab, hB, hO⟩ := hA
  have c3 := hB.cell (i := 3) rfl
  obtain ⟨a, cap, rfl, hrows⟩ := rows_at hO
  have hlen := hx.few
  have HN := hid hno
  have HR := hid hrows
  clear hB hO hrows hx hno
  generalize hL : x.l.length = len at *
  have HL := hid hL
  clear hL
  go_enter Tryd.func40, Tryd.ntmps40
  go_wp2_with fail
  go_loopw [5] (fun i wr => ∃ k : Nat, k ≤ len ∧ i = .int .i64 k ∧ wr = w) (fun i _ => (len - (intOf i).toNat))
  case atStart => exact ⟨0, by omega, rfl, rfl⟩
  case round =>
    obtain ⟨k, hk, rfl, rfl⟩ := hrel
    by_cases hlt : k < len
    · obtain ⟨y, hy⟩ : ∃ y, x.l[k]? = some y := ⟨_, List.getElem?_eq_getElem (by rw [HL.out]; omega)⟩
      obtain ⟨g, rfl, hc⟩ := HR.out (by omega)
      have e1 := (hc k y hy).1
      have hne := HN.out k y hy
      have hq : (y.pos == p) = false := by simpa using hne
      clear hc hy hne
      generalize y.pos = q at *
      go_wp2_with fail
      go_roundw
      case rel => exact ⟨k + 1, by omega, by go_num, by first | rfl | trivial⟩
      case measure => simp [intOf]; omega
    · obtain rfl : k = len := by omega
      go_wp2_with fail
      refine (no_any allocS p 4 _).mono ?_
      rintro e w' ⟨v, rfl, hF, hK⟩
      go_wp2_with fail
      go_ret
      exact ⟨v, rfl, hF, hK⟩

set_option maxRecDepth 100000 in
set_option maxHeartbeats 2000000 in
theorem rget_arg (rab : Nat) (n wd : Int) (w : World) (h : n < 1 ∨ 4096 < n ∨ (wd ≠ 32 ∧ wd ≠ 64)) : Calls Tryd.prog 42 #[.pointer (some ⟨rab, 0, none⟩), .int .i64 n, .int .i64 wd] w fun e w' =>
    ∃ v, e = .returned (.tuple #[.int .i64 0, v]) ∧ FailAt w' v [(allocS, 0)] 1 ∧ Keeps [] w w' := by
  have fin : ∀ q1 q2 q3 q4 : Bool, decide (n < 1) = q1 → decide (4096 < n) = q2 → (wd != 32) = q3 → (wd != 64) = q4 → (q1 = true ∨ q2 = true ∨ (q3 = true ∧ q4 = true)) →
      Calls Tryd.prog 42 #[.pointer (some ⟨rab, 0, none⟩), .int .i64 n, .int .i64 wd] w fun e w' =>
    ∃ v, e = .returned (.tuple #[.int .i64 0, v]) ∧ FailAt w' v [(allocS, 0)] 1 ∧ Keeps [] w w' := by
    intro q1 q2 q3 q4 d1 d2 d3 d4 hq
    clear h
    cases q1 <;> cases q2 <;> cases q3 <;> cases q4 <;> simp at hq
    all_goals
      go_enter Tryd.func42, Tryd.ntmps42
      go_wp2_with fail
      refine (no_any allocS 0 1 _).mono ?_
      rintro e w' ⟨v, rfl, hF, hK⟩
      go_wp2_with fail
      go_ret2
      exact ⟨v, rfl, hF, hK⟩
  refine fin _ _ _ _ rfl rfl rfl rfl ?_
  rcases h with h | h | ⟨h1, h2⟩
  · exact .inl (by simpa using h)
  · exact .inr (.inl (by simpa using h))
  · exact .inr (.inr ⟨by simpa using h1, by simpa using h2⟩)

set_option maxRecDepth 100000 in
set_option maxHeartbeats 2000000 in
theorem rget_room (base rab rb : Nat) (lv : Value) (x : AS) (n wd : Int) (w : World) (hA : RAllocAt w base rab rb lv x) (hx : x.ok) (h1 : 1 ≤ n) (h2 : n ≤ 4096) (hv : wd = 32 ∨ wd = 64) (hno : ∀ i, i ≤ x.l.length → gapOf x.fr x.l x.til i < n) :
    Calls Tryd.prog 42 #[.pointer (some ⟨rab, 0, none⟩), .int .i64 n, .int .i64 wd] w fun e w' =>
    ∃ v, e = .returned (.tuple #[.int .i64 0, v]) ∧ FailAt w' v [(allocS, 0)] 3 ∧ Keeps [] w w' := by
  obtain ⟨hab, hB, hO⟩ := hA
  have c1 := hB.cell (i := 1) rfl
  obtain ⟨a, cap, rfl, hrows⟩ := rows_at hO
  have hlen := hx.few
  have HX := hid hx
  have HB := hid hB
  have HR := hid hrows
  have HNO := hid hno
  have HLT : Hid (∀ g, a = some ⟨g, 0, none⟩ → g < w.heap.size) := hid (fun g hg => by subst hg; exact (World.ownsRow.lt hO g rfl).2)
  have d1 : decide (n < 1) = false := by simp; omega
  have d2 : decide (4096 < n) = false := by simp; omega
  clear hB hO hrows hx hno
  generalize hL : x.l.length = len at *
  have HL := hid hL
  clear hL
  rcases hv with rfl | rfl
  all_goals
    go_enter Tryd.func42, Tryd.ntmps42
    go_wp2_with fail
    go_loopw [8, 9] (fun at_ i wr => ∃ k : Nat, k ≤ len ∧ i = .int .i64 k ∧ at_ = .int .i64 (endOf x.fr x.l k) ∧ Keeps [] w wr) (fun _ i _ => (len - (intOf i).toNat))
    case atStart => exact ⟨0, by omega, rfl, rfl, Keeps.refl [] w⟩
    case round =>
      obtain ⟨k, hk, rfl, rfl, hKR⟩ := hrel
      have hBR := HB.out.keeps hKR (by simp)
      have c2 := hBR.cell (i := 2) rfl
      have c3 := hBR.cell (i := 3) rfl
      have hgp := HX.out.chain.gap (i := k) (by rw [HL.out]; omega)
      have hgn := HNO.out k hk
      have hlo := HX.out.lo
      have hhi := HX.out.hi
      unfold gapOf at hgn
      clear hBR
      by_cases hlt : k < len
      · obtain ⟨y, hy⟩ : ∃ y, x.l[k]? = some y := ⟨_, List.getElem?_eq_getElem (by rw [HL.out]; omega)⟩
        obtain ⟨g, rfl, hc⟩ := HR.out (by omega)
        have hg := HLT.out g rfl
        have e0 := (hKR.cell (p := ⟨g, k * 3, none⟩) hg (by simp)).trans (hc k y hy).1
        have e1 := (hKR.cell (p := ⟨g, k * 3 + 1, none⟩) hg (by simp)).trans (hc k y hy).2.1
        have hs := r_start_at (t := x.til) hy
        have hel := HX.out.chain.elem hy
        have HE := hid (r_end_next (a := x.fr) hy)
        rw [hs] at hgp hgn
        clear hc hs hy
        generalize y.pos = p at *
        generalize y.n = q at *
        generalize endOf x.fr x.l k = en at *
        have d3 : decide (p - en < n) = true := decide_eq_true hgn
        have hsum : IntKind.i64.wrap (p + q) = p + q := by rw [IntKind.wrap_i64]; omega
        go_wp2_with fail
        go_quiet (fail)
        go_wp2_with fail
        go_roundw
        case rel => exact ⟨k + 1, by omega, by go_num, by rw [HE.out], hKR.drewN _⟩
        case measure => simp [intOf]; omega
      · obtain rfl : k = len := by omega
        have hs : startOf x.l x.til k = x.til := by unfold startOf; rw [if_pos HL.out.symm]
        rw [hs] at hgp hgn
        clear hs
        generalize x.til = t at *
        generalize endOf x.fr x.l k = en at *
        have d3 : decide (t - en < n) = true := decide_eq_true hgn
        go_wp2_with fail
        refine (no_any allocS 0 3 _).mono ?_
        rintro e w' ⟨v, rfl, hF, hK⟩
        go_wp2_with fail
        go_ret2
        exact ⟨v, rfl, hF, hKR.trans hK⟩
end Go.Proofs.YtmciclhifcjoiaaDoor
