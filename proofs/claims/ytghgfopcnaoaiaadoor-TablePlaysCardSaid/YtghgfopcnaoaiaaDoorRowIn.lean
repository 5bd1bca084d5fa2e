/-
  What a slice of numbers that came in is; distaffkeep.Within.
-/
import Derived.Test.YtghgfopcnaoaiaaDoorBase
import Derived.OpenShut
namespace Go.Proofs.YtghgfopcnaoaiaaDoor
open Go.RowKit

/-- A slice of numbers that came in. -/
def RowIn' (k : IntKind) (w : World) (a : Option Addr) (len cap : Nat) (zs : List Int) : Prop :=
  (a = none ∧ len = 0 ∧ cap = 0 ∧ zs = []) ∨
  ∃ x, a = some x ∧ len ≤ cap ∧ cap ≤ maxLen ∧ zs.length = cap ∧ (∀ i, i < zs.length → w.cell? (x.add i) = some (.int k (zs.getD i 0))) ∧ ∀ n ∈ zs, (Lit.int k n).wf = true

/-- Its elements, whether it is nil or not. -/
theorem RowIn'.elems {k : IntKind} {w : World} {a : Option Addr} {len cap : Nat} {zs : List Int} (h : RowIn' k w a len cap zs) (hp : 0 < len) :
    ∃ xb xo, a = some ⟨xb, xo, none⟩ ∧ xb < w.heap.size ∧ len ≤ zs.length ∧ (∀ j, j < zs.length → w.cell? ⟨xb, xo + j, none⟩ = some (.int k (zs.getD j 0))) ∧ ∀ n ∈ zs, (Lit.int k n).wf = true := by
  rcases h with ⟨_, h, _⟩ | ⟨x, rfl, hl, hm, hz, hcell, hw⟩
  · omega
  · obtain ⟨xb, xo, rfl, hc⟩ := ints_at hcell (by omega)
    exact ⟨xb, xo, rfl, lt_of_cell (hc 0 (by omega)), by omega, hc, hw⟩

theorem RowIn'.len_le {k : IntKind} {w : World} {a : Option Addr} {len cap : Nat} {zs : List Int} (h : RowIn' k w a len cap zs) : len ≤ 9223372036854775807 := by
  rcases h with ⟨_, h, _⟩ | ⟨x, rfl, hl, hm, hz, hcell, hw⟩
  · omega
  · unfold maxLen at hm
    omega

theorem RowIn'.range {w : World} {a : Option Addr} {len cap : Nat} {zs : List Int} (h : RowIn' .u64 w a len cap zs) (j : Nat) : 0 ≤ zs.getD j 0 ∧ zs.getD j 0 ≤ 18446744073709551615 := by
  rcases h with ⟨_, _, _, rfl⟩ | ⟨x, rfl, hl, hm, hz, hcell, hw⟩
  · simp
  · have := range_u64 hw j
    simpa [List.getD_eq_getElem?_getD] using this

set_option maxHeartbeats 400000 in
theorem within_any (v n : Int) (w : World) (hn : 1 ≤ n) (hn2 : n ≤ 4294967296) :
    Calls Tryd.prog 15 #[.int .i64 v, .int .i64 n] w fun e w' => e = .returned (.int .i64 (v % n)) ∧ w = w' := by
  have H : ∀ x : Int, x = v % n → Ending.returned (.int .i64 x) = .returned (.int .i64 (v % n)) := fun x h => by rw [h]
  have H := hid H
  have d1 : decide (n < 1) = false := by simp; omega
  have hlt : v.tmod n < n := Int.tmod_lt_of_pos _ (by omega)
  have hgt : -n < v.tmod n := by
    have := Int.lt_tmod_of_pos v (show 0 < n by omega)
    omega
  have hE : v % n = if v.tmod n < 0 then v.tmod n + n else v.tmod n := by
    have e1 := Int.emod_add_mul_ediv v n
    have e2 := Int.tmod_add_mul_tdiv v n
    have hr0 := Int.emod_nonneg v (show n ≠ 0 by omega)
    have hr1 := Int.emod_lt_of_pos v (show 0 < n by omega)
    have hd : ∃ q, v % n = v.tmod n + n * q := ⟨v.tdiv n - v / n, by rw [Int.mul_sub]; omega⟩
    obtain ⟨q, hq⟩ := hd
    have hqv : q = 0 ∨ q = 1 := by
      rcases Int.lt_or_le q 0 with hq0 | hq0
      · have : n * q ≤ n * (-1) := Int.mul_le_mul_of_nonneg_left (by omega) (by omega)
        omega
      · rcases Int.lt_or_le q 2 with hq2 | hq2
        · omega
        · have : n * 2 ≤ n * q := Int.mul_le_mul_of_nonneg_left (by omega) (by omega)
          omega
    rcases hqv with rfl | rfl
    · split <;> omega
    · split <;> omega
  have HE := hid hE
  clear hE
  have hnz : (n == 0) = false := by simp; omega
  by_cases hneg : v.tmod n < 0
  · have HE2 := hid (show v % n = v.tmod n + n by rw [HE.out, if_pos hneg])
    generalize hk : v.tmod n = k at *
    have HK := hid hk
    go_enter Tryd.func15, Tryd.ntmps15
    go_wp2_with fail
    go_ret
    exact ⟨H.out _ (by rw [HE2.out]; try simp), rfl⟩
  · have HE2 := hid (show v % n = v.tmod n by rw [HE.out, if_neg hneg])
    generalize hk : v.tmod n = k at *
    have HK := hid hk
    go_enter Tryd.func15, Tryd.ntmps15
    go_wp2_with fail
    go_ret
    exact ⟨H.out _ (by rw [HE2.out]; try simp), rfl⟩

end Go.Proofs.YtghgfopcnaoaiaaDoor
