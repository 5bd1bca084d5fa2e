/-
  TableFresh: the plain law: ids that were given, and the rows.
-/
import Derived.Test.YtghgfopcnaoaiaaDoorLaw11
namespace Go.Proofs.YtghgfopcnaoaiaaDoor
open Go.RowKit

/-- One place may have been changed, but not who has it. -/
def Sm (l l' : List TRow) : Prop := l' = l ∨ ∃ i r r', l[i]? = some r ∧ l' = l.set i r' ∧ r'.times = r.times ∧ (r'.taken = true → r.taken = true ∧ r'.id = r.id)

theorem sm_loose (l : List TRow) (id : Int) : Sm l (looseF l id).2 := by
  unfold looseF
  cases hi : idx l id with
  | none => exact Or.inl rfl
  | some i =>
    obtain ⟨r, hr, ht, he⟩ := idx_some hi
    simp only [rowOf_some hr]
    split
    · exact Or.inl rfl
    · split
      · exact Or.inr ⟨i, r, _, hr, rfl, rfl, fun h => by cases h⟩
      · exact Or.inr ⟨i, r, _, hr, rfl, rfl, fun _ => ⟨ht, rfl⟩⟩
theorem sm_end (l : List TRow) (id v : Int) : Sm l (endF l id v).2 := by
  unfold endF
  cases hi : idx l id with
  | none => exact Or.inl rfl
  | some i =>
    obtain ⟨r, hr, ht, he⟩ := idx_some hi
    simp only [rowOf_some hr]
    split
    · exact Or.inl rfl
    · exact Or.inr ⟨i, r, _, hr, rfl, rfl, fun _ => ⟨ht, rfl⟩⟩
theorem sm_leave (l : List TRow) (id : Int) : Sm l (leaveF l id).2 := by
  unfold leaveF
  cases hi : idx l id with
  | none => exact Or.inl rfl
  | some i =>
    obtain ⟨r, hr, ht, he⟩ := idx_some hi
    simp only [rowOf_some hr]
    split
    · exact Or.inl rfl
    · split
      · exact Or.inr ⟨i, r, _, hr, rfl, rfl, fun h => by cases h⟩
      · exact Or.inr ⟨i, r, _, hr, rfl, rfl, fun _ => ⟨ht, rfl⟩⟩
theorem sm_reap (l : List TRow) (id : Int) : Sm l (reapF l id).2 := by
  unfold reapF
  cases hi : idx l id with
  | none => exact Or.inl rfl
  | some i =>
    obtain ⟨r, hr, ht, he⟩ := idx_some hi
    simp only [rowOf_some hr]
    split
    · exact Or.inl rfl
    · split
      · exact Or.inr ⟨i, r, _, hr, rfl, rfl, fun _ => ⟨ht, rfl⟩⟩
      · exact Or.inr ⟨i, r, _, hr, rfl, rfl, fun h => by cases h⟩

/-- Behind k rounds: whose the rows are, and which ids were given. -/
structure Fr (n k : Nat) (l : List TRow) (g : List Int) : Prop where
  len : l.length = n
  rows : ∀ (i : Nat) (r : TRow), l[i]? = some r → 0 ≤ r.times ∧ r.times ≤ (k : Int) ∧ (r.taken = true → r.id % 64 = (i : Int) ∧ 0 ≤ r.id)
  given : ∀ x, x ∈ g → ∃ (i : Nat) (r : TRow) (m : Int), l[i]? = some r ∧ 1 ≤ m ∧ m ≤ r.times ∧ x = (i : Int) + 64 * m
  some_ : k = 0 ∨ g ≠ []
  most : g.length ≤ k
  free : k = 0 → ∀ (i : Nat) (r : TRow), l[i]? = some r → r.taken = false

theorem Fr.start (n : Nat) : Fr n 0 (tNew n) [] := by
  have h : ∀ (i : Nat) r, (tNew n)[i]? = some r → r = zrow := by
    intro i r hr
    have := List.mem_of_getElem? hr
    exact List.eq_of_mem_replicate this
  refine ⟨by simp [tNew], ?_, by simp, Or.inl rfl, by simp, ?_⟩
  · intro i r hr
    rw [h i r hr]
    exact ⟨Int.le_refl _, Int.le_refl _, fun h => by cases h⟩
  · intro _ i r hr
    rw [h i r hr]
    rfl

theorem Fr.sm {n k : Nat} {l l' : List TRow} {g : List Int} (h : Fr n (k + 1) l g) (hs : Sm l l') : Fr n (k + 1) l' g := by
  rcases hs with rfl | ⟨i, r, r', hr, rfl, ht, hk⟩
  · exact h
  · have hi : i < l.length := (List.getElem?_eq_some_iff.1 hr).1
    refine ⟨by rw [List.length_set]; exact h.len, ?_, ?_, h.some_, h.most, by omega⟩
    · intro j q hq
      by_cases hj : i = j
      · subst hj
        rw [List.getElem?_set_self hi] at hq
        cases hq
        obtain ⟨h1, h2, h3⟩ := h.rows i r hr
        rw [ht]
        refine ⟨h1, h2, fun hx => ?_⟩
        obtain ⟨h4, h5⟩ := hk hx
        rw [h5]
        exact h3 h4
      · rw [List.getElem?_set_ne hj] at hq
        exact h.rows j q hq
    · intro x hx
      obtain ⟨j, q, m, hq, h1, h2, h3⟩ := h.given x hx
      by_cases hj : i = j
      · subst hj
        rw [hr] at hq
        cases hq
        exact ⟨i, r', m, List.getElem?_set_self hi, h1, by rw [ht]; exact h2, h3⟩
      · exact ⟨j, q, m, by rw [List.getElem?_set_ne hj]; exact hq, h1, h2, h3⟩

theorem first_free : ∀ l : List TRow, (∀ (j : Nat) q, l[j]? = some q → q.taken = true) ∨ ∃ (i : Nat) (r : TRow), l[i]? = some r ∧ r.taken = false ∧ ∀ (j : Nat) (q : TRow), j < i → l[j]? = some q → q.taken = true
  | [] => Or.inl (fun j q h => by simp at h)
  | r :: l => by
    cases ht : r.taken with
    | false => exact Or.inr ⟨0, r, rfl, ht, fun j q hj => by omega⟩
    | true =>
      rcases first_free l with h | ⟨i, q, h1, h2, h3⟩
      · refine Or.inl (fun j q hq => ?_)
        cases j with
        | zero => simp at hq; subst hq; exact ht
        | succ j => exact h j q (by simpa using hq)
      · refine Or.inr ⟨i + 1, q, by simpa using h1, h2, fun j p hj hp => ?_⟩
        cases j with
        | zero => simp at hp; subst hp; exact ht
        | succ j => exact h3 j p (by omega) (by simpa using hp)

theorem born_form (r : TRow) (i : Nat) (home : Int) (h1 : 0 ≤ r.times) (h2 : r.times ≤ 100) (hi : i < 64) : (bornRow r i home).times = r.times + 1 ∧ (bornRow r i home).id = (i : Int) + 64 * (r.times + 1) := by
  unfold bornRow
  simp only [IntKind.wrap_u64]
  omega

/-- A birth: a new id, that was not given. -/
theorem Fr.born {n k : Nat} {l : List TRow} {g : List Int} (h : Fr n k l g) (hn : n ≤ 64) (hk : k ≤ 90) {i : Nat} {r : TRow} (hr : l[i]? = some r) (home : Int) :
    Fr n (k + 1) (l.set i (bornRow r i home)) (g ++ [(bornRow r i home).id]) ∧ (bornRow r i home).id ∉ g ∧ 64 ≤ (bornRow r i home).id ∧ (bornRow r i home).id < 100000 := by
  have hi : i < l.length := (List.getElem?_eq_some_iff.1 hr).1
  have hi2 : i < 64 := by have := h.len; omega
  obtain ⟨h1, h2, h3⟩ := h.rows i r hr
  obtain ⟨b1, b2⟩ := born_form r i home h1 (by omega) hi2
  refine ⟨⟨by rw [List.length_set]; exact h.len, ?_, ?_, Or.inr (by simp), by simp; have := h.most; omega, by omega⟩, ?_, by rw [b2]; omega, by rw [b2]; omega⟩
  · intro j q hq
    by_cases hj : i = j
    · subst hj
      rw [List.getElem?_set_self hi] at hq
      cases hq
      rw [b1, b2]
      exact ⟨by omega, by omega, fun _ => by omega⟩
    · rw [List.getElem?_set_ne hj] at hq
      obtain ⟨q1, q2, q3⟩ := h.rows j q hq
      exact ⟨q1, by omega, q3⟩
  · intro x hx
    rcases List.mem_append.1 hx with hx | hx
    · obtain ⟨j, q, m, hq, g1, g2, g3⟩ := h.given x hx
      by_cases hj : i = j
      · subst hj
        rw [hr] at hq
        cases hq
        exact ⟨i, _, m, List.getElem?_set_self hi, g1, by rw [b1]; omega, g3⟩
      · exact ⟨j, q, m, by rw [List.getElem?_set_ne hj]; exact hq, g1, g2, g3⟩
    · simp at hx
      subst hx
      exact ⟨i, _, r.times + 1, List.getElem?_set_self hi, by omega, by rw [b1]; omega, b2⟩
  · intro hx
    obtain ⟨j, q, m, hq, g1, g2, g3⟩ := h.given _ hx
    rw [b2] at g3
    have hj64 : j < 64 := by have := (List.getElem?_eq_some_iff.1 hq).1; have := h.len; omega
    obtain rfl : i = j := by omega
    rw [hr] at hq
    cases hq
    omega

/-- No birth: there was no place. -/
theorem Fr.full {n k : Nat} {l : List TRow} {g : List Int} (h : Fr n k l g) (h1 : 1 ≤ n) (hall : ∀ (j : Nat) q, l[j]? = some q → q.taken = true) : Fr n (k + 1) l g := by
  refine ⟨h.len, ?_, h.given, ?_, by have := h.most; omega, by omega⟩
  · intro i r hr
    obtain ⟨q1, q2, q3⟩ := h.rows i r hr
    exact ⟨q1, by omega, q3⟩
  · rcases h.some_ with rfl | h0
    · have hl : 0 < l.length := by have := h.len; omega
      have e1 := hall 0 _ (List.getElem?_eq_getElem hl)
      have e2 := h.free rfl 0 _ (List.getElem?_eq_getElem hl)
      rw [e1] at e2
      cases e2
    · exact Or.inr h0

/-- At one time no two have an id. -/
theorem Fr.apart {n k : Nat} {l : List TRow} {g : List Int} (h : Fr n k l g) {a b : Nat} {r s : TRow} (hab : b < a) (hr : (threads l)[a]? = some r) (hs : (threads l)[b]? = some s) : (r.id == s.id) = false := by
  have hp : List.Pairwise (fun x y : TRow => x.taken = true → y.taken = true → x.id ≠ y.id) l := by
    rw [List.pairwise_iff_getElem]
    intro i j hi hj hij hx hy he
    have h1 := (h.rows i _ (List.getElem?_eq_getElem hi)).2.2 hx
    have h2 := (h.rows j _ (List.getElem?_eq_getElem hj)).2.2 hy
    omega
  have hq : List.Pairwise (fun x y : TRow => x.taken = true → y.taken = true → x.id ≠ y.id) (threads l) := List.Pairwise.filter _ hp
  rw [List.pairwise_iff_getElem] at hq
  obtain ⟨ha, hra⟩ := List.getElem?_eq_some_iff.1 hr
  obtain ⟨hb, hsb⟩ := List.getElem?_eq_some_iff.1 hs
  have hne := hq b a hb ha hab
  rw [hra, hsb] at hne
  have tr : ∀ x, x ∈ threads l → x.taken = true := by
    intro x hx
    exact (List.mem_filter.1 hx).2
  have := hne (tr s (List.mem_of_getElem? hs)) (tr r (List.mem_of_getElem? hr))
  simp only [beq_eq_false_iff_ne, ne_eq]
  omega
end Go.Proofs.YtghgfopcnaoaiaaDoor
