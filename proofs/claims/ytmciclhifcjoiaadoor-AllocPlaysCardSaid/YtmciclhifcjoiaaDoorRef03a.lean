/-
  The document's allocator (distaffref03): what it holds; Used, Widest.
-/
import Derived.Test.YtmciclhifcjoiaaDoorAl8
namespace Go.Proofs.YtmciclhifcjoiaaDoor
open Go.RowKit

def RAllocAt (w : World) (base rab rb : Nat) (lv : Value) (x : AS) : Prop :=
  rab < base ∧ Blk w rab #[.pointer (some ⟨rb, 0, none⟩), .int .i64 x.fr, .int .i64 x.til, lv] 116 ∧ w.ownsRow base 117 3 lv x.l.length (x.l.flatMap Bk.cells)

theorem RAllocAt.keeps {S : List Nat} {w w' : World} {base ab mb : Nat} {lv : Value} {x : AS} (h : RAllocAt w base ab mb lv x) (hK : Keeps S w w') (hab : ab ∉ S) (hS : ∀ x, x ∈ S → x < base) : RAllocAt w' base ab mb lv x := by
  obtain ⟨h0, h1, h2⟩ := h
  exact ⟨h0, h1.keeps hK hab, ownsRow_keeps h2 hK hS⟩

theorem r_start_at {l : List Bk} {t : Int} {j : Nat} {y : Bk} (h : l[j]? = some y) : startOf l t j = y.pos := by
  have hj := (List.getElem?_eq_some_iff.1 h).1
  unfold startOf
  rw [if_neg (by omega)]
  simp [List.getD, h]
theorem r_end_next {l : List Bk} {a : Int} {j : Nat} {y : Bk} (h : l[j]? = some y) : endOf a l (j + 1) = y.pos + y.n := by
  show (l.getD j bk0).pos + (l.getD j bk0).n = _
  simp [List.getD, h]
theorem r_used_next {l : List Bk} {j : Nat} {y : Bk} (h : l[j]? = some y) : used (l.take (j + 1)) = used (l.take j) + y.n := by
  rw [List.take_add_one, h]
  exact used_snoc _ _
theorem r_used_take {l : List Bk} {a t : Int} (hC : Chain a l t) : ∀ {j : Nat}, j ≤ l.length → 0 ≤ used (l.take j) ∧ a + used (l.take j) ≤ endOf a l j
  | 0, _ => by simp [used, endOf]
  | j + 1, hj => by
    obtain ⟨h1, h2⟩ := @r_used_take l a t hC j (by omega)
    obtain ⟨y, hy⟩ : ∃ y, l[j]? = some y := ⟨_, List.getElem?_eq_getElem (by omega)⟩
    have h3 := hC.gap (i := j) (by omega)
    have h4 := hC.elem hy
    rw [r_start_at hy] at h3
    rw [r_used_next hy, r_end_next hy]
    omega

set_option maxHeartbeats 1000000 in
theorem rused_any (base rab rb : Nat) (lv : Value) (x : AS) (w : World) (hA : RAllocAt w base rab rb lv x) (hx : x.ok) :
    Calls Tryd.prog 62 #[.pointer (some ⟨rab, 0, none⟩)] w fun e w' => e = .returned (.int .i64 (used x.l)) ∧ w = w' := by
  obtain ⟨hab, hB, hO⟩ := hA
  have c3 := hB.cell (i := 3) rfl
  obtain ⟨a, cap, rfl, hrows⟩ := rows_at hO
  have hlen := hx.few
  have HX := hid hx
  have HR := hid hrows
  clear hB hO hrows hx
  generalize hL : x.l.length = len at *
  have HL := hid hL
  clear hL
  go_enter Tryd.func62, Tryd.ntmps62
  go_wp2_with fail
  go_loopw [3, 4] (fun u i wr => ∃ k : Nat, k ≤ len ∧ i = .int .i64 k ∧ u = .int .i64 (used (x.l.take k)) ∧ wr = w) (fun _ i _ => (len - (intOf i).toNat))
  case atStart => exact ⟨0, by omega, rfl, rfl, rfl⟩
  case round =>
    obtain ⟨k, hk, rfl, rfl, rfl⟩ := hrel
    by_cases hlt : k < len
    · obtain ⟨y, hy⟩ : ∃ y, x.l[k]? = some y := ⟨_, List.getElem?_eq_getElem (by rw [HL.out]; omega)⟩
      obtain ⟨g, rfl, hc⟩ := HR.out (by omega)
      have e1 := (hc k y hy).2.1
      have h1 := r_used_take HX.out.chain (j := k) (by rw [HL.out]; omega)
      have h2 := r_used_take HX.out.chain (j := k + 1) (by rw [HL.out]; omega)
      have h3 := HX.out.chain.gap (i := k + 1) (by rw [HL.out]; omega)
      have h4 := HX.out.hi
      have h5 := HX.out.lo
      have h6 := HX.out.chain.elem hy
      have hn := r_used_next hy
      have HN := hid hn
      have b1 : 0 ≤ used (x.l.take k) + y.n := by omega
      have b2 : used (x.l.take k) + y.n ≤ 9223372036854775807 := by omega
      clear h1 h2 h3 h4 h5 h6 hn hc hy
      generalize used (x.l.take k) = U at *
      generalize y.n = q at *
      go_wp2_with fail
      go_roundw
      case rel => exact ⟨k + 1, by omega, by go_num, by rw [HN.out], by first | rfl | trivial⟩
      case measure => simp [intOf]; omega
    · obtain rfl : k = len := by omega
      have hT : x.l.take k = x.l := List.take_of_length_le (by rw [HL.out]; omega)
      rw [hT]
      go_wp2_with fail
      go_ret
      exact ⟨rfl, rfl⟩

set_option maxHeartbeats 2000000 in
theorem rwidest_any (base rab rb : Nat) (lv : Value) (x : AS) (w : World) (hA : RAllocAt w base rab rb lv x) (hx : x.ok) :
    Calls Tryd.prog 63 #[.pointer (some ⟨rab, 0, none⟩)] w fun e w' => e = .returned (.int .i64 (widest x (x.l.length + 1))) ∧ Keeps [] w w' := by
  obtain ⟨hab, hB, hO⟩ := hA
  have c1 := hB.cell (i := 1) rfl
  obtain ⟨a, cap, rfl, hrows⟩ := rows_at hO
  have hlen := hx.few
  have HX := hid hx
  have HB := hid hB
  have HR := hid hrows
  have hlt : rab < w.heap.size := hB.lt
  have HLT : Hid (∀ g, a = some ⟨g, 0, none⟩ → g < w.heap.size) := hid (fun g hg => by subst hg; exact (World.ownsRow.lt hO g rfl).2)
  clear hB hO hrows hx
  generalize hL : x.l.length = len at *
  have HL := hid hL
  clear hL
  go_enter Tryd.func63, Tryd.ntmps63
  go_wp2_with fail
  go_quiet (fail)
  go_wp2_with fail
  go_loopw [3, 4, 5] (fun m at_ i wr => ∃ k : Nat, k ≤ len ∧ i = .int .i64 k ∧ m = .int .i64 (widest x k) ∧ at_ = .int .i64 (endOf x.fr x.l k) ∧ Keeps [] w wr) (fun _ _ i _ => (len - (intOf i).toNat))
  case atStart => exact ⟨0, by omega, rfl, rfl, rfl, (Keeps.refl [] w).drewN _⟩
  case round =>
    obtain ⟨k, hk, rfl, rfl, rfl, hKR⟩ := hrel
    have hBR := HB.out.keeps hKR (by simp)
    have c2 := hBR.cell (i := 2) rfl
    have c3 := hBR.cell (i := 3) rfl
    have hw := widest_range HX.out k (by rw [HL.out]; omega)
    have hgp := HX.out.chain.gap (i := k) (by rw [HL.out]; omega)
    have hlo := HX.out.lo
    have hhi := HX.out.hi
    have HM := hid (show widest x (k + 1) = max (widest x k) (startOf x.l x.til k - endOf x.fr x.l k) from rfl)
    clear hBR
    by_cases hlt : k < len
    · obtain ⟨y, hy⟩ : ∃ y, x.l[k]? = some y := ⟨_, List.getElem?_eq_getElem (by rw [HL.out]; omega)⟩
      obtain ⟨g, rfl, hc⟩ := HR.out (by omega)
      have hg := HLT.out g rfl
      have e0 := (hKR.cell (p := ⟨g, k * 3, none⟩) hg (by simp)).trans (hc k y hy).1
      have e1 := (hKR.cell (p := ⟨g, k * 3 + 1, none⟩) hg (by simp)).trans (hc k y hy).2.1
      have hs := r_start_at (t := x.til) hy
      have hel := HX.out.chain.elem hy
      have HE := hid (r_end_next (a := x.fr) hy)
      rw [hs] at hgp
      replace HM := hid (HM.out.trans (by rw [hs]))
      clear hc hs hy
      generalize y.pos = p at *
      generalize y.n = q at *
      generalize endOf x.fr x.l k = en at *
      generalize widest x k = wi at *
      have hsum : IntKind.i64.wrap (p + q) = p + q := by rw [IntKind.wrap_i64]; omega
      go_wp2_with fail
      all_goals
        go_quiet (fail)
        go_wp2_with fail
        go_roundw
        case rel => exact ⟨k + 1, by omega, by go_num, by rw [HM.out]; congr 1; omega, by rw [HE.out], hKR.drewN _⟩
        case measure => simp [intOf]; omega
    · obtain rfl : k = len := by omega
      have hs : startOf x.l x.til k = x.til := by unfold startOf; rw [if_pos HL.out.symm]
      rw [hs] at hgp
      replace HM := hid (HM.out.trans (by rw [hs]))
      clear hs
      generalize x.til = t at *
      generalize endOf x.fr x.l k = en at *
      generalize widest x k = wi at *
      go_wp2_with fail
      all_goals
        go_ret
        refine ⟨?_, hKR⟩
        rw [HM.out]
        refine congrArg (fun z => Ending.returned (Value.int .i64 z)) ?_
        omega

theorem ranew_ok (rb : Nat) (f t : Int) (w : World) (h0 : 0 ≤ f) (h1 : f ≤ t) :
    Calls Tryd.prog 39 #[.pointer (some ⟨rb, 0, none⟩), .int .i64 f, .int .i64 t] w fun e w' => e = .returned (.tuple #[.pointer (some ⟨w.heap.size, 0, none⟩), .pointer none]) ∧ RAllocAt w' w'.heap.size w.heap.size rb (.slice none 0 0) ⟨f, t, []⟩ ∧ Keeps [] w w' ∧ w'.heap.size = w.heap.size + 1 := by
  have d1 : decide (f < 0) = false := by simp; omega
  have d2 : decide (t < f) = false := by simp; omega
  go_enter Tryd.func39, Tryd.ntmps39
  go_wp2_with fail
  go_ret2
  exact ⟨rfl, ⟨by simp, Blk.fresh _ _ _, World.ownsRow_nil _ _ _ _⟩, (Keeps.refl _ _).alloc _, by simp⟩
end Go.Proofs.YtmciclhifcjoiaaDoor
