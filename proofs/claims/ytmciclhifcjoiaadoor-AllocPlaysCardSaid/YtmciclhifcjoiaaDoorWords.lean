/-
  Plain facts on words of 64 and of 32 digits.
-/
import Derived.Test.YtmciclhifcjoiaaDoorMem4
import Derived.OpenShut
namespace Go.Proofs.YtmciclhifcjoiaaDoor
open Go.RowKit

theorem cut64' (v : Int) : cutI 64 v = v := by simp [cutI]

theorem cut32 (v : Int) (h0 : 0 ≤ v) (h1 : v ≤ 18446744073709551615) : cutI 32 v = v % 4294967296 := by
  have h := u64_and v 4294967295 h0 (by omega) (by omega) (by omega)
  have e : v.toNat &&& (4294967295 : Int).toNat = v.toNat % 4294967296 := Nat.and_two_pow_sub_one_eq_mod v.toNat 32
  rw [e] at h
  simp only [cutI, if_true, h]
  omega

theorem sum64 (s x : Int) : sumI 64 s x = IntKind.u64.wrap (s + x) := by simp only [sumI, cut64']

theorem sum32 (s x : Int) (h0 : 0 ≤ s) (h1 : s ≤ 18446744073709551615) (h2 : 0 ≤ x) (h3 : x ≤ 18446744073709551615) : sumI 32 s x = (s + x) % 4294967296 := by
  unfold sumI
  rw [cut32 s h0 h1, cut32 x h2 h3, IntKind.wrap_u64, cut32 _ (by omega) (by omega)]
  omega

theorem cut_range (k v : Int) (h0 : 0 ≤ v) (h1 : v ≤ 18446744073709551615) : 0 ≤ cutI k v ∧ cutI k v ≤ 18446744073709551615 := by
  by_cases h32 : k = 32
  · subst h32
    rw [cut32 v h0 h1]
    omega
  · by_cases h64 : k = 64
    · subst h64
      rw [cut64']
      omega
    · simp [cutI, h32, h64]

theorem sum_range (k a b : Int) : 0 ≤ sumI k a b ∧ sumI k a b ≤ 18446744073709551615 := by
  unfold sumI
  refine cut_range _ _ ?_ ?_
  · rw [IntKind.wrap_u64]; omega
  · rw [IntKind.wrap_u64]; omega

end Go.Proofs.YtmciclhifcjoiaaDoor
