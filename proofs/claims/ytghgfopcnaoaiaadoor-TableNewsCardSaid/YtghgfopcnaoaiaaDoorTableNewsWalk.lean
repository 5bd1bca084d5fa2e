/-
  TableNews: the walk of the statement's own function.
-/
import Derived.Test.YtghgfopcnaoaiaaDoorLaw11
import Derived.Test.YtghgfopcnaoaiaaDoorRowIn
namespace Go.Proofs.YtghgfopcnaoaiaaDoor
open Go.RowKit

/-- n places, the first k of them taken by threads whose homes are their numbers. -/
def news (n k : Nat) : List TRow := (List.range n).map fun i => if i < k then ⟨1, true, false, 64 + (i : Int), 1, (i : Int), 0, 0, false, false⟩ else zrow

theorem news_zero (n : Nat) : tNew n = news n 0 := by
  unfold tNew news
  apply List.ext_getElem?
  intro i
  rw [List.getElem?_replicate, List.getElem?_map]
  by_cases h : i < n
  · rw [if_pos h, List.getElem?_range h]
    rfl
  · rw [if_neg h, List.getElem?_eq_none (by simp; omega)]
    rfl

theorem news_get (n k i : Nat) (h : i < n) : (news n k)[i]? = some (if i < k then ⟨1, true, false, 64 + (i : Int), 1, (i : Int), 0, 0, false, false⟩ else zrow) := by
  unfold news
  rw [List.getElem?_map, List.getElem?_range h]
  rfl

theorem news_length (n k : Nat) : (news n k).length = n := by simp [news]

theorem news_row (k : Nat) (hk : k < 64) : bornRow zrow k k = ⟨1, true, false, 64 + (k : Int), 1, (k : Int), 0, 0, false, false⟩ := by
  have e : IntKind.u64.wrap ((k : Int) + IntKind.u64.wrap (64 * IntKind.u64.wrap (zrow.times + 1))) = 64 + (k : Int) := by
    simp only [IntKind.wrap_u64, zrow]
    omega
  have e2 : IntKind.u64.wrap (zrow.times + 1) = 1 := by kernel_rfl
  unfold bornRow
  rw [e, e2]
  rfl

theorem news_set (n k : Nat) (h : k < n) (hk : k < 64) : (news n k).set k (bornRow zrow k k) = news n (k + 1) := by
  rw [news_row k hk]
  apply List.ext_getElem?
  intro i
  by_cases hi : i < n
  · rw [news_get n (k + 1) i hi]
    by_cases he : k = i
    · subst he
      rw [List.getElem?_set_self (by rw [news_length]; exact h), if_pos (by omega)]
    · rw [List.getElem?_set_ne he, news_get n k i hi]
      by_cases hik : i < k
      · rw [if_pos hik, if_pos (by omega)]
      · rw [if_neg hik, if_neg (by omega)]
  · rw [List.getElem?_eq_none (by rw [List.length_set, news_length]; omega), List.getElem?_eq_none (by rw [news_length]; omega)]

theorem news_born (b rb n k : Nat) (w : World) (h : k < n) (hn : n ≤ 64) (hT : TableAt w b rb (news n k)) :
    Calls Tryd.prog 14 #[.pointer (some ⟨b, 0, none⟩), .int .u64 (k : Int)] w (BornPost w b rb (64 + (k : Int)) (news n (k + 1))) := by
  have hb := born_ok b rb (news n k) k zrow k w hT (by rw [news_get n k k h, if_neg (by omega)]) rfl (by
    intro j q hj hq
    rw [news_get n k j (by omega), if_pos hj] at hq
    cases hq
    rfl)
  rw [news_set n k h (by omega)] at hb
  have e : (bornRow zrow k k).id = 64 + (k : Int) := by rw [news_row k (by omega)]
  rw [e] at hb
  exact hb

theorem threads_none (n : Nat) : threads (news n 0) = [] := by
  unfold threads
  rw [List.filter_eq_nil_iff]
  intro r hr
  simp only [news, List.mem_map, List.mem_range] at hr
  obtain ⟨i, _, rfl⟩ := hr
  simp [zrow]

theorem threads_all (n : Nat) : (threads (news n n)).length = n := by
  have e : threads (news n n) = news n n := by
    unfold threads
    rw [List.filter_eq_self]
    intro r hr
    simp only [news, List.mem_map, List.mem_range] at hr
    obtain ⟨i, hi, rfl⟩ := hr
    rw [if_pos hi]
  rw [e, news_length]

theorem own_form {w : World} {base size : Nat} {e : TypeId} {v : Value} {n : Nat} {xs : List Value} (h : w.ownsRow base e size v n xs) : ∃ a cap, v = .slice a n cap := by
  rcases h.2 with ⟨rfl, rfl⟩ | ⟨g, cap, cur, rfl, _⟩
  · exact ⟨none, 0, rfl⟩
  · exact ⟨_, cap, rfl⟩

set_option maxHeartbeats 1000000 in
theorem tableNews_out (m : Int) (w : World) (hg : GV w) (h : m < 1 ∨ 64 < m) : Calls Tryd.prog 3 #[.int .i64 m] w fun e w' => e = .returned (.bool true) ∧ Below w.heap.size w w' := by
  have hE := ErrAt.fresh w tabS 0 1
  have hK := (Keeps.refl [] w).alloc (.cells #[.string tabS, .int .i64 0, .iface 30 (.int .i64 1)] 76)
  have HG := hid hg
  have d1 : (decide (m < 1) || decide (64 < m)) = true := by simp; omega
  have d2 : ∃ q, decide (m < 1) = q := ⟨_, rfl⟩
  obtain ⟨q, hq⟩ := d2
  go_enter Tryd.func3, Tryd.ntmps3
  go_wp2_with fail
  refine (tnew_arg m _ h).mono ?_
  rintro e w1 ⟨rfl, rfl⟩
  generalize (w.alloc (.cells #[.string tabS, .int .i64 0, .iface 30 (.int .i64 1)] 76)) = w1 at *
  cases q with
  | true =>
    go_wp2_with fail
    refine (no_any tabS 0 1 _).mono ?_
    rintro e w2 ⟨u, rfl, hF2, hK2⟩
    go_wp2_with fail
    refine (same_one _ u tabS 0 1 _ ((HG.out.keeps hK (by simp)).keeps hK2 (by simp)) (hE.keeps hK2) hF2 (by omega) (by omega)).mono ?_
    rintro e w3 ⟨rfl, hK3⟩
    go_wp2_with fail
    refine (awake_any _ (((HG.out.keeps hK (by simp)).keeps hK2 (by simp)).keeps hK3 (by simp))).mono ?_
    rintro e w4 ⟨rfl, hK4⟩
    go_wp2_with fail
    go_ret
    exact ⟨rfl, (((hK.trans hK2).trans hK3).trans hK4).below (Nat.le_refl _) (by simp)⟩
  | false =>
    have d3 : decide (64 < m) = true := by simp at hq ⊢; omega
    go_wp2_with fail
    refine (no_any tabS 0 1 _).mono ?_
    rintro e w2 ⟨u, rfl, hF2, hK2⟩
    go_wp2_with fail
    refine (same_one _ u tabS 0 1 _ ((HG.out.keeps hK (by simp)).keeps hK2 (by simp)) (hE.keeps hK2) hF2 (by omega) (by omega)).mono ?_
    rintro e w3 ⟨rfl, hK3⟩
    go_wp2_with fail
    refine (awake_any _ (((HG.out.keeps hK (by simp)).keeps hK2 (by simp)).keeps hK3 (by simp))).mono ?_
    rintro e w4 ⟨rfl, hK4⟩
    go_wp2_with fail
    go_ret
    exact ⟨rfl, (((hK.trans hK2).trans hK3).trans hK4).below (Nat.le_refl _) (by simp)⟩

set_option maxRecDepth 100000 in
set_option maxHeartbeats 1000000 in
theorem tableNews_in (n : Nat) (w : World) (hg : GV w) (h1 : 1 ≤ n) (h2 : n ≤ 64) : Calls Tryd.prog 3 #[.int .i64 (n : Int)] w fun e w' => e = .returned (.bool true) ∧ Below w.heap.size w w' := by
  have HG := hid hg
  have d1 : decide ((n : Int) < 1) = false := by simp; omega
  have d2 : decide (64 < (n : Int)) = false := by simp; omega
  go_enter Tryd.func3, Tryd.ntmps3
  go_wp2_with fail
  refine (tnew_ok n _ h1 h2).mono ?_
  rintro e w1 ⟨b, rb, rfl, hT, hK, hb, hrb⟩
  rw [news_zero] at hT
  go_wp2_with fail
  refine (all_any b rb _ _ hT).mono ?_
  rintro e w2 ⟨v, rfl, hown, hK2⟩
  rw [threads_none] at hown
  obtain ⟨a, cap, rfl⟩ := own_form hown
  have hT2 := hT.keeps hK2 (by simp) (by simp)
  have hKK := hK.trans hK2
  clear hown
  go_wp2_with fail
  go_loopw [5] (fun s wr => ∃ k : Nat, k ≤ n ∧ s = .int .i64 k ∧ TableAt wr b rb (news n k) ∧ Keeps [] w wr) (fun s _ => (n - (intOf s).toNat))
  case atStart => exact ⟨0, by omega, rfl, hT2, hKK⟩
  case round =>
    obtain ⟨k, hk, rfl, hTR, hKR⟩ := hrel
    by_cases hlt : k < n
    · go_wp2_with fail
      refine (news_born b rb n k _ hlt h2 hTR).mono ?_
      rintro e w3 ⟨rfl, hT3, hK3⟩
      have hne : (64 + (k : Int) != 64 + (k : Int)) = false := by simp
      go_wp2_with fail
      go_roundw
      case rel => exact ⟨k + 1, by omega, by go_num, hT3, hKR.drop hK3 (by intro x hx; simp at hx; omega)⟩
      case measure => simp [intOf]; omega
    · obtain rfl : k = n := by omega
      go_wp2_with fail
      refine (born_full b rb _ 1 _ hTR (by
        intro j q hq
        have hj : j < k := by have := (List.getElem?_eq_some_iff.1 hq).1; rwa [news_length] at this
        rw [news_get k k j hj, if_pos hj] at hq
        cases hq
        rfl)).mono ?_
      rintro e w3 ⟨rfl, rfl⟩
      have hE := ErrAt.fresh wr tabS 0 3
      have hK3 := hKR.alloc (.cells #[.string tabS, .int .i64 0, .iface 30 (.int .i64 3)] 76)
      have hT3 := hTR.keeps ((Keeps.refl [] wr).alloc (.cells #[.string tabS, .int .i64 0, .iface 30 (.int .i64 3)] 76)) (by simp) (by simp)
      generalize (wr.alloc (.cells #[.string tabS, .int .i64 0, .iface 30 (.int .i64 3)] 76)) = w3 at *
      go_wp2_with fail
      refine (no_any tabS 0 3 _).mono ?_
      rintro e w4 ⟨u, rfl, hF4, hK4⟩
      have hK4' := hK3.trans hK4
      go_wp2_with fail
      refine (same_one _ u tabS 0 3 _ (HG.out.keeps hK4' (by simp)) (hE.keeps hK4) hF4 (by omega) (by omega)).mono ?_
      rintro e w5 ⟨rfl, hK5⟩
      have hK5' := hK4'.trans hK5
      go_wp2_with fail
      refine (all_any b rb _ _ ((hT3.keeps hK4 (by simp) (by simp)).keeps hK5 (by simp) (by simp))).mono ?_
      rintro e w6 ⟨v, rfl, hown6, hK6⟩
      rw [threads_all] at hown6
      obtain ⟨a6, cap6, rfl⟩ := own_form hown6
      clear hown6
      have hnn : ((k : Int) == (k : Int)) = true := by simp
      go_wp2_with fail
      refine (awake_any _ (HG.out.keeps (hK5'.trans hK6) (by simp))).mono ?_
      rintro e w7 ⟨rfl, hK7⟩
      go_wp2_with fail
      go_ret
      exact ⟨rfl, ((hK5'.trans hK6).trans hK7).below (Nat.le_refl _) (by simp)⟩

theorem tableNews_walk (m : Int) (w : World) (_w0 : (Lit.int .i64 m).wf = true) (hg : w.cell? ⟨0, 0, none⟩ = some (.iface 113 (.agg #[.pointer (some ⟨1, 24, none⟩)]))) :
    Calls Tryd.prog 3 #[.int .i64 m] w fun e w' => e = .returned (.bool true) ∧ Below w.heap.size w w' := by
  by_cases h : m < 1 ∨ 64 < m
  · exact tableNews_out m w hg h
  · obtain ⟨n, rfl⟩ := Int.eq_ofNat_of_zero_le (show 0 ≤ m by omega)
    exact tableNews_in n w hg (by omega) (by omega)
end Go.Proofs.YtghgfopcnaoaiaaDoor
