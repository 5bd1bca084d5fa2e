/-
  The document's memory: There; how many cells are there.
-/
import Derived.Test.YtmciclhifcjoiaaDoorMem6
namespace Go.Proofs.YtmciclhifcjoiaaDoor
open Go.RowKit

/-- How many cells are there. -/
def cnt (l : List Int) : Nat := l.countP (· != 0)

theorem cnt_set (l : List Int) (i : Nat) (v : Int) (hi : i < l.length) : cnt (l.set i v) + (if l.getD i 0 != 0 then 1 else 0) = cnt l + (if v != 0 then 1 else 0) := by
  induction l generalizing i with
  | nil => simp at hi
  | cons x l ih =>
    cases i with
    | zero =>
      simp only [cnt, List.set_cons_zero, List.countP_cons, List.getD_cons_zero]
      omega
    | succ i =>
      have := ih i (by simpa using hi)
      simp only [cnt, List.set_cons_succ, List.countP_cons, List.getD_cons_succ] at this ⊢
      omega

theorem cnt_map (l : List Int) (a : Nat) (v : Int) (hv : v ≠ 0) : ∀ k : Nat, a + k ≤ l.length → (∀ i, i < k → (l.getD (a + i) 0 != 0) = false) → cnt (fill l a v k) = cnt l + k
  | 0, _, _ => rfl
  | k + 1, hl, hall => by
    have ih := cnt_map l a v hv k (by omega) (fun i hi => hall i (by omega))
    have hs := cnt_set (fill l a v k) (a + k) v (by rw [fill_length]; omega)
    have e : (fill l a v k).getD (a + k) 0 = l.getD (a + k) 0 := by rw [fill_get, if_neg (by omega)]
    rw [e, hall k (by omega), show (v != 0) = true by simpa using hv] at hs
    show cnt ((fill l a v k).set (a + k) v) = _
    simp at hs
    omega

theorem cnt_unmap (l : List Int) (a : Nat) : ∀ k : Nat, a + k ≤ l.length → (∀ i, i < k → (l.getD (a + i) 0 != 0) = true) → cnt (fill l a 0 k) + k = cnt l
  | 0, _, _ => rfl
  | k + 1, hl, hall => by
    have ih := cnt_unmap l a k (by omega) (fun i hi => hall i (by omega))
    have hs := cnt_set (fill l a 0 k) (a + k) 0 (by rw [fill_length]; omega)
    have e : (fill l a 0 k).getD (a + k) 0 = l.getD (a + k) 0 := by rw [fill_get, if_neg (by omega)]
    rw [e, hall k (by omega)] at hs
    show cnt ((fill l a 0 k).set (a + k) 0) + _ = _
    simp at hs
    omega

theorem cnt_take (l : List Int) (k : Nat) (hk : k < l.length) : cnt (l.take (k + 1)) = cnt (l.take k) + (if l.getD k 0 != 0 then 1 else 0) := by
  unfold cnt
  rw [List.take_add_one, List.countP_append]
  simp [List.getD, hk, List.countP_cons]

set_option maxHeartbeats 1000000 in
theorem rthere_any (b wb hb : Nat) (s : MS) (w : World) (hM : RefAt w b wb hb s) : Calls Tryd.prog 44 #[.pointer (some ⟨b, 0, none⟩)] w fun e w' => e = .returned (.int .i64 (cnt s.width)) ∧ w = w' := by
  have hm := hM.2.2.2.2.2.2.most
  have hc0 := hM.1.cell (i := 0) rfl
  have HW := hid hM.2.1
  have hle : ∀ k, cnt (s.width.take k) ≤ k := fun k => Nat.le_trans List.countP_le_length (List.length_take_le _ _)
  have HE := hid hle
  clear hle
  generalize hL : s.width.length = len at *
  have HL := hid hL
  clear hL
  go_enter Tryd.func44, Tryd.ntmps44
  go_wp2
  go_loop [3, 4] (fun c i => ∃ k : Nat, k ≤ len ∧ i = .int .i64 k ∧ c = .int .i64 (cnt (s.width.take k))) (fun _ i => (len - (intOf i).toNat))
  case atStart => exact ⟨0, by omega, rfl, rfl⟩
  case round =>
    obtain ⟨k, hk, rfl, rfl⟩ := hrel
    by_cases hlt : k < len
    · have hx := HW.out.cell (ints_get (by rw [HL.out]; exact hlt))
      have HT := hid (cnt_take s.width k (by rw [HL.out]; exact hlt))
      have hck := HE.out k
      generalize hC : cnt (s.width.take k) = c at *
      generalize s.width.getD k 0 = x at *
      by_cases h0 : x = 0
      · subst h0
        go_wp2
        go_round
        case rel => exact ⟨k + 1, by omega, by go_num, by rw [HT.out]; rfl⟩
        case measure => simp [intOf]; omega
      · have hx0 : (x != 0) = true := by simpa using h0
        clear h0
        go_wp2
        go_round
        case rel => exact ⟨k + 1, by omega, by go_num, by rw [HT.out, if_pos hx0]; rfl⟩
        case measure => simp [intOf]; omega
    · obtain rfl : k = len := by omega
      go_wp2
      go_ret
      rw [List.take_of_length_le (by rw [HL.out]; exact Nat.le_refl _)]
      exact ⟨rfl, rfl⟩
end Go.Proofs.YtmciclhifcjoiaaDoor
