/-
  MemSums: the walk of the statement's own function out of the contracts of mem.
-/
import Derived.Test.YtmciclhifcjoiaaLaw02
import Derived.Test.YtmciclhifcjoiaaRowIn
namespace Go.Proofs.Ytmciclhifcjoiaa
open Go.RowKit

/-- The sum of the first k numbers, of that width. -/
def sumTo (wd : Int) (zs : List Int) : Nat → Int
  | 0 => 0
  | k + 1 => sumI wd (sumTo wd zs k) (zs.getD k 0)

theorem sumTo_range (wd : Int) (zs : List Int) (k : Nat) : 0 ≤ sumTo wd zs k ∧ sumTo wd zs k ≤ 18446744073709551615 := by
  cases k with
  | zero => simp [sumTo]
  | succ k => exact sum_range _ _ _

def sums (wd s : Int) (k : Nat) : MS := ⟨[0, wd, 0, 0], [0, s, 0, 0], 1, (k : Int)⟩

theorem sums_add (wd s x : Int) (k : Nat) (hk : k ≤ 200) : (sums wd s k).put (1 : Int).toNat (sumI ((sums wd s k).width.getD (1 : Int).toNat 0) ((sums wd s k).hold.getD (1 : Int).toNat 0) x) = sums wd (sumI wd s x) (k + 1) := by
  have h1 : (sums wd s k).width.getD (1 : Int).toNat 0 = wd := rfl
  have h2 : (sums wd s k).hold.getD (1 : Int).toNat 0 = s := rfl
  have h3 : wrap64 ((k : Int) + 1) = ((k + 1 : Nat) : Int) := by unfold wrap64; omega
  rw [h1, h2]
  simp only [MS.put, sums, h3]
  rfl

section
variable (b cb wb : Nat) (wd s x : Int) (k : Nat) (w : World)
theorem sums_map_calls (hwd : wd = 32 ∨ wd = 64) (hM : MemAt w b cb wb (MS.new 4)) : Calls Try.prog 12 #[.pointer (some ⟨b, 0, none⟩), .int .i64 1, .int .i64 1, .int .i64 wd] w fun e w' =>
    e = .returned .nilIface ∧ MemAt w' b cb wb (sums wd 0 0) ∧ Keeps [b, cb, wb] w w' := by
  have e : (MS.new 4).map 1 1 wd = sums wd 0 0 := by
    have h : wrap64 1 = 1 := by kernel_rfl
    simp [MS.map, MS.part, MS.new, fill, sums, h, List.replicate]
  exact e ▸ map_ok b cb wb (MS.new 4) 1 1 w hM (by omega) (by omega) (by simp [MS.new]) wd hwd (by intro i hi; simp at hi; subst hi; rfl)
theorem sums_add_calls (hwd : wd = 32 ∨ wd = 64) (hk : k ≤ 200) (hM : MemAt w b cb wb (sums wd s k)) : Calls Try.prog 13 #[.pointer (some ⟨b, 0, none⟩), .int .u64 1, .int .u64 x] w fun e w' =>
    e = .returned (.tuple #[.int .u64 s, .nilIface]) ∧ MemAt w' b cb wb (sums wd (sumI wd s x) (k + 1)) ∧ Keeps [b, cb] w w' :=
  sums_add wd s x k hk ▸ add_ok b cb wb (sums wd s k) 1 x w hM (by omega) (by simp [sums]; omega)
theorem sums_load_calls (hwd : wd = 32 ∨ wd = 64) (hk : k ≤ 200) (hM : MemAt w b cb wb (sums wd s k)) : Calls Try.prog 10 #[.pointer (some ⟨b, 0, none⟩), .int .u64 1] w fun e w' =>
    e = .returned (.tuple #[.int .u64 s, .nilIface]) ∧ MemAt w' b cb wb (sums wd s (k + 1)) ∧ Keeps [b, cb] w w' := by
  have h := load_ok b cb wb (sums wd s k) 1 w hM (by omega) (by simp [sums]; omega)
  have h3 : wrap64 ((k : Int) + 1) = ((k + 1 : Nat) : Int) := by unfold wrap64; omega
  have e : (sums wd s k).tick = sums wd s (k + 1) := by simp only [MS.tick, sums, h3]
  rw [e] at h
  exact h
end

theorem memSums_long (a1 : Option Addr) (len cap : Nat) (n : Bool) (w : World) (h1 : 200 < len) (h2 : len ≤ 9223372036854775807) :
    Calls Try.prog 4 #[.slice a1 len cap, .bool n] w fun e w' => e = .returned (.bool true) ∧ Below w.heap.size w w' := by
  have d2 : decide ((200 : Int) < (len : Int)) = true := by simp; omega
  go_enter Try.func4, Try.ntmps4
  go_wp2_with fail
  refine (new_ok 4 _ (by omega) (by omega)).mono ?_
  rintro e w1 ⟨b, cb, wb, rfl, hM, hK, hb, hcb, hwb⟩
  go_wp2_with fail
  refine (awake_any _).mono ?_
  rintro e w2 ⟨rfl, hK2⟩
  go_wp2_with fail
  go_ret
  exact ⟨rfl, (hK.trans hK2).below (Nat.le_refl _) (by simp)⟩

set_option maxHeartbeats 1000000 in
theorem memSums_wide (a1 : Option Addr) (len cap : Nat) (zs : List Int) (w : World) (w1 : RowIn' .u64 w a1 len cap zs) (h1 : len ≤ 200) :
    Calls Try.prog 4 #[.slice a1 len cap, .bool false] w fun e w' => e = .returned (.bool true) ∧ Below w.heap.size w w' := by
  have d2 : decide ((200 : Int) < (len : Int)) = false := by simp; omega
  have HW := hid w1
  clear w1
  go_enter Try.func4, Try.ntmps4
  go_wp2_with fail
  refine (new_ok 4 _ (by omega) (by omega)).mono ?_
  rintro e w1 ⟨b, cb, wb, rfl, hM, hK, hb, hcb, hwb⟩
  go_wp2_with fail
  refine (sums_map_calls b cb wb 64 _ (.inr rfl) hM).mono ?_
  rintro e w2 ⟨rfl, hM2, hK2⟩
  go_wp2_with fail
  go_loopw [9, 10] (fun s i wr => ∃ k : Nat, k ≤ len ∧ i = .int .i64 k ∧ s = .int .u64 (sumTo 64 zs k) ∧ MemAt wr b cb wb (sums 64 (sumTo 64 zs k) k) ∧ Keeps [] w wr) (fun _ i _ => (len - (intOf i).toNat))
  case atStart => exact ⟨0, by omega, rfl, rfl, hM2, hK.drop hK2 (by intro x hx; simp at hx; omega)⟩
  case round =>
    obtain ⟨k, hk, rfl, rfl, hR, hKR⟩ := hrel
    by_cases hlt : k < len
    · obtain ⟨xb, xo, rfl, hx, hz, hc, hw⟩ := HW.out.elems (by omega)
      have hck := (hKR.cell (p := ⟨xb, xo + k, none⟩) hx (by simp)).trans (hc k (by omega))
      have HS := hid (show sumTo 64 zs (k + 1) = IntKind.u64.wrap (sumTo 64 zs k + zs.getD k 0) by simp only [sumTo, sum64])
      have HT := hid (show sumI 64 (sumTo 64 zs k) (zs.getD k 0) = sumTo 64 zs (k + 1) from rfl)
      clear hc hw
      generalize zs.getD k 0 = lk at *
      generalize sumTo 64 zs k = sk at *
      go_wp2_with fail
      refine (sums_add_calls b cb wb 64 sk lk k _ (.inr rfl) (by omega) hR).mono ?_
      rintro e w3 ⟨rfl, hM3, hK3⟩
      have hck3 := (hK3.cell (p := ⟨xb, xo + k, none⟩) (lt_of_cell hck) (by simp; omega)).trans hck
      go_wp2_with fail
      go_roundw
      case rel => exact ⟨k + 1, by omega, by go_num, by rw [HS.out], by rw [← HT.out]; exact hM3, hKR.drop hK3 (by intro x hx; simp at hx; omega)⟩
      case measure => simp [intOf]; omega
    · obtain rfl : k = len := by omega
      generalize sumTo 64 zs k = sk at *
      go_wp2_with fail
      refine (sums_load_calls b cb wb 64 sk k _ (.inr rfl) (by omega) hR).mono ?_
      rintro e w3 ⟨rfl, hM3, hK3⟩
      go_wp2_with fail
      refine (count_any b cb wb _ _ hM3).mono ?_
      rintro e w4 ⟨rfl, rfl⟩
      have hc : (sums 64 sk (k + 1)).count = (k : Int) + 1 := rfl
      rw [hc]
      clear hc
      go_wp2_with fail
      refine (awake_any _).mono ?_
      rintro e w5 ⟨rfl, hK5⟩
      go_wp2_with fail
      go_ret
      exact ⟨rfl, ((hKR.drop hK3 (by intro x hx; simp at hx; omega)).trans hK5).below (Nat.le_refl _) (by simp)⟩

set_option maxHeartbeats 1000000 in
theorem memSums_narrow (a1 : Option Addr) (len cap : Nat) (zs : List Int) (w : World) (w1 : RowIn' .u64 w a1 len cap zs) (h1 : len ≤ 200) :
    Calls Try.prog 4 #[.slice a1 len cap, .bool true] w fun e w' => e = .returned (.bool true) ∧ Below w.heap.size w w' := by
  have d2 : decide ((200 : Int) < (len : Int)) = false := by simp; omega
  have HW := hid w1
  clear w1
  go_enter Try.func4, Try.ntmps4
  go_wp2_with fail
  refine (new_ok 4 _ (by omega) (by omega)).mono ?_
  rintro e w1 ⟨b, cb, wb, rfl, hM, hK, hb, hcb, hwb⟩
  go_wp2_with fail
  refine (sums_map_calls b cb wb 32 _ (.inl rfl) hM).mono ?_
  rintro e w2 ⟨rfl, hM2, hK2⟩
  go_wp2_with fail
  go_loopw [9, 10] (fun s i wr => ∃ k : Nat, k ≤ len ∧ i = .int .i64 k ∧ s = .int .u64 (sumTo 32 zs k) ∧ MemAt wr b cb wb (sums 32 (sumTo 32 zs k) k) ∧ Keeps [] w wr) (fun _ i _ => (len - (intOf i).toNat))
  case atStart => exact ⟨0, by omega, rfl, rfl, hM2, hK.drop hK2 (by intro x hx; simp at hx; omega)⟩
  case round =>
    obtain ⟨k, hk, rfl, rfl, hR, hKR⟩ := hrel
    by_cases hlt : k < len
    · obtain ⟨xb, xo, rfl, hx, hz, hc, hw⟩ := HW.out.elems (by omega)
      have hck := (hKR.cell (p := ⟨xb, xo + k, none⟩) hx (by simp)).trans (hc k (by omega))
      have hr := sumTo_range 32 zs k
      have hr2 := HW.out.range k
      have HS := hid (show sumTo 32 zs (k + 1) = (IntKind.u64.wrap (sumTo 32 zs k + zs.getD k 0)).tmod 4294967296 by
        simp only [sumTo]
        rw [sum32 _ _ hr.1 hr.2 hr2.1 hr2.2, Int.tmod_eq_emod_of_nonneg (wrap_u64_nonneg _), IntKind.wrap_u64]
        omega)
      have HT := hid (show sumI 32 (sumTo 32 zs k) (zs.getD k 0) = sumTo 32 zs (k + 1) from rfl)
      clear hc hw hr hr2
      generalize zs.getD k 0 = lk at *
      generalize sumTo 32 zs k = sk at *
      go_wp2_with fail
      refine (sums_add_calls b cb wb 32 sk lk k _ (.inl rfl) (by omega) hR).mono ?_
      rintro e w3 ⟨rfl, hM3, hK3⟩
      have hck3 := (hK3.cell (p := ⟨xb, xo + k, none⟩) (lt_of_cell hck) (by simp; omega)).trans hck
      go_wp2_with fail
      go_roundw
      case rel => exact ⟨k + 1, by omega, by go_num, by rw [HS.out], by rw [← HT.out]; exact hM3, hKR.drop hK3 (by intro x hx; simp at hx; omega)⟩
      case measure => simp [intOf]; omega
    · obtain rfl : k = len := by omega
      generalize sumTo 32 zs k = sk at *
      go_wp2_with fail
      refine (sums_load_calls b cb wb 32 sk k _ (.inl rfl) (by omega) hR).mono ?_
      rintro e w3 ⟨rfl, hM3, hK3⟩
      go_wp2_with fail
      refine (count_any b cb wb _ _ hM3).mono ?_
      rintro e w4 ⟨rfl, rfl⟩
      have hc : (sums 32 sk (k + 1)).count = (k : Int) + 1 := rfl
      rw [hc]
      clear hc
      go_wp2_with fail
      refine (awake_any _).mono ?_
      rintro e w5 ⟨rfl, hK5⟩
      go_wp2_with fail
      go_ret
      exact ⟨rfl, ((hKR.drop hK3 (by intro x hx; simp at hx; omega)).trans hK5).below (Nat.le_refl _) (by simp)⟩

theorem memSums_walk (a1 : Option Addr) (len cap : Nat) (zs : List Int) (n : Bool) (w : World) (w1 : RowIn' .u64 w a1 len cap zs) :
    Calls Try.prog 4 #[.slice a1 len cap, .bool n] w fun e w' => e = .returned (.bool true) ∧ Below w.heap.size w w' := by
  by_cases h : 200 < len
  · exact memSums_long a1 len cap n w h w1.len_le
  · cases n with
    | false => exact memSums_wide a1 len cap zs w w1 (by omega)
    | true => exact memSums_narrow a1 len cap zs w w1 (by omega)
end Go.Proofs.Ytmciclhifcjoiaa
