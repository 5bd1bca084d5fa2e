/-
  The program's table and the document's: the same rows; 'id'. (Printed by gen_rt4.py.)
-/
import Derived.Test.YtghgfopcnaoaiaaDoorRt3
import Derived.Test.YtghgfopcnaoaiaaDoorTableRows
namespace Go.Proofs.YtghgfopcnaoaiaaDoor
open Go.RowKit

/-- One place may have been changed: who has it has it still, or nobody. -/
def Sg (l l' : List TRow) : Prop := l' = l ∨ ∃ i r r', l[i]? = some r ∧ r.taken = true ∧ l' = l.set i r' ∧ r'.times = r.times ∧ ((r'.taken = false ∧ r'.id = 0 ∧ r'.reaped = false ∧ r'.value = 0 ∧ r'.home = 0) ∨ (r'.taken = true ∧ r'.id = r.id ∧ (0 ≤ r.value → 0 ≤ r'.value) ∧ (0 ≤ r.home → 0 ≤ r'.home)))

theorem sg_be (l : List TRow) (id x : Int) : Sg l (beF l id x).2 := by
  unfold beF
  cases hi : idx l id with
  | none => exact .inl rfl
  | some i =>
    obtain ⟨r, hr, ht, he⟩ := idx_some hi
    simp only [rowOf_some hr]
    split
    · exact .inl rfl
    · split
      · exact .inl rfl
      · exact .inr ⟨i, r, _, hr, ht, rfl, rfl, .inr ⟨ht, rfl, fun h => h, fun h => h⟩⟩
theorem sg_join (l : List TRow) (id x : Int) : Sg l (joinF l id x).2 := by
  unfold joinF
  cases hi : idx l id with
  | none => exact .inl rfl
  | some i =>
    obtain ⟨r, hr, ht, he⟩ := idx_some hi
    simp only [rowOf_some hr]
    split
    · exact .inl rfl
    · split
      · exact .inl rfl
      · exact .inr ⟨i, r, _, hr, ht, rfl, rfl, .inr ⟨ht, rfl, fun h => h, fun h => h⟩⟩
theorem sg_loose (l : List TRow) (id : Int) : Sg l (looseF l id).2 := by
  unfold looseF
  cases hi : idx l id with
  | none => exact .inl rfl
  | some i =>
    obtain ⟨r, hr, ht, he⟩ := idx_some hi
    simp only [rowOf_some hr]
    split
    · exact .inl rfl
    · split
      · exact .inr ⟨i, r, _, hr, ht, rfl, rfl, .inl ⟨rfl, rfl, rfl, rfl, rfl⟩⟩
      · exact .inr ⟨i, r, _, hr, ht, rfl, rfl, .inr ⟨ht, rfl, fun h => h, fun h => h⟩⟩
theorem sg_end (l : List TRow) (id v : Int) (hv : 0 ≤ v) : Sg l (endF l id v).2 := by
  unfold endF
  cases hi : idx l id with
  | none => exact .inl rfl
  | some i =>
    obtain ⟨r, hr, ht, he⟩ := idx_some hi
    simp only [rowOf_some hr]
    split
    · exact .inl rfl
    · exact .inr ⟨i, r, _, hr, ht, rfl, rfl, .inr ⟨ht, rfl, fun _ => hv, fun h => h⟩⟩
theorem sg_leave (l : List TRow) (id : Int) : Sg l (leaveF l id).2 := by
  unfold leaveF
  cases hi : idx l id with
  | none => exact .inl rfl
  | some i =>
    obtain ⟨r, hr, ht, he⟩ := idx_some hi
    simp only [rowOf_some hr]
    split
    · exact .inl rfl
    · split
      · exact .inr ⟨i, r, _, hr, ht, rfl, rfl, .inl ⟨rfl, rfl, rfl, rfl, rfl⟩⟩
      · exact .inr ⟨i, r, _, hr, ht, rfl, rfl, .inr ⟨ht, rfl, fun h => h, fun h => h⟩⟩
theorem sg_reap (l : List TRow) (id : Int) : Sg l (reapF l id).2 := by
  unfold reapF
  cases hi : idx l id with
  | none => exact .inl rfl
  | some i =>
    obtain ⟨r, hr, ht, he⟩ := idx_some hi
    simp only [rowOf_some hr]
    split
    · exact .inl rfl
    · split
      · exact .inr ⟨i, r, _, hr, ht, rfl, rfl, .inr ⟨ht, rfl, fun h => h, fun h => h⟩⟩
      · exact .inr ⟨i, r, _, hr, ht, rfl, rfl, .inl ⟨rfl, rfl, rfl, rfl, rfl⟩⟩

/-- How often a place was taken at most. -/
def Tm (k : Nat) (l : List TRow) : Prop := ∀ (i : Nat) (r : TRow), l[i]? = some r → r.times ≤ (k : Int)

theorem Tg.sg {l l' : List TRow} {k : Nat} (h : Tg l) (hm : Tm k l) (hs : Sg l l') : Tg l' ∧ Tm (k + 1) l' := by
  rcases hs with rfl | ⟨i, r, r', hr, ht, rfl, he, hc⟩
  · exact ⟨h, fun i r hr => by have := hm i r hr; omega⟩
  · have hi : i < l.length := (List.getElem?_eq_some_iff.1 hr).1
    obtain ⟨h1, h2, h3, h4, h5⟩ := h.rows i r hr
    refine ⟨⟨fun j q hq => ?_⟩, fun j q hq => ?_⟩
    · by_cases hj : i = j
      · subst hj
        rw [List.getElem?_set_self hi] at hq
        cases hq
        rw [he]
        rcases hc with ⟨c1, c2, c3, c4, c5⟩ | ⟨c1, c2, c4, c5⟩
        · rw [c1, c2, c3, c4, c5]
          exact ⟨fun hh => (by cases hh), fun _ => ⟨rfl, rfl⟩, h3, by omega, by omega⟩
        · rw [c1, c2]
          exact ⟨fun _ => h1 ht, fun hh => (by cases hh), h3, c4 h4, c5 h5⟩
      · rw [List.getElem?_set_ne hj] at hq
        exact h.rows j q hq
    · by_cases hj : i = j
      · subst hj
        rw [List.getElem?_set_self hi] at hq
        cases hq
        rw [he]
        have := hm i r hr
        omega
      · rw [List.getElem?_set_ne hj] at hq
        have := hm j q hq
        omega
theorem Tg.born {l : List TRow} {k : Nat} (h : Tg l) (hm : Tm k l) (hk : k ≤ 100) (hl : l.length ≤ 64) {i : Nat} {r : TRow} (hr : l[i]? = some r) {home : Int} (hh : 0 ≤ home) :
    Tg (l.set i (bornRow r i home)) ∧ Tm (k + 1) (l.set i (bornRow r i home)) := by
  have hi : i < l.length := (List.getElem?_eq_some_iff.1 hr).1
  obtain ⟨_, _, h3, h4, h5⟩ := h.rows i r hr
  have hm1 := hm i r hr
  obtain ⟨b1, b2⟩ := born_form r i home h3 (by omega) (by omega)
  refine ⟨⟨fun j q hq => ?_⟩, fun j q hq => ?_⟩
  · by_cases hj : i = j
    · subst hj
      rw [List.getElem?_set_self hi] at hq
      cases hq
      rw [b1, b2]
      exact ⟨fun _ => by omega, fun hh => (by cases hh), by omega, (show (0 : Int) ≤ 0 by omega), hh⟩
    · rw [List.getElem?_set_ne hj] at hq
      exact h.rows j q hq
  · by_cases hj : i = j
    · subst hj
      rw [List.getElem?_set_self hi] at hq
      cases hq
      rw [b1]
      omega
    · rw [List.getElem?_set_ne hj] at hq
      have := hm j q hq
      omega
theorem tg_new (n : Nat) : Tg (tNew n) ∧ Tm 0 (tNew n) := by
  have h : ∀ (i : Nat) r, (tNew n)[i]? = some r → r = zrow := by
    intro i r hr
    have := List.mem_of_getElem? hr
    exact List.eq_of_mem_replicate this
  refine ⟨⟨fun i r hr => ?_⟩, fun i r hr => ?_⟩
  · rw [h i r hr]
    exact ⟨fun hh => (by cases hh), fun _ => ⟨rfl, rfl⟩, Int.le_refl _, Int.le_refl _, Int.le_refl _⟩
  · rw [h i r hr]
    exact Int.le_refl _

/-- Both tables. -/
structure TTwo (B : Nat) (w : World) (b rb c rc : Nat) (l : List TRow) : Prop where
  tab : TableAt w b rb l
  ref : RTabAt w c rc l
  tg : Tg l
  new : B ≤ b ∧ B ≤ rb ∧ B ≤ c ∧ B ≤ rc
  apart : b ≠ c ∧ b ≠ rc ∧ rb ≠ c ∧ rb ≠ rc

section
variable {B : Nat} {w w0 w1 w2 w3 : World} {b rb c rc : Nat} {l l' : List TRow}
theorem TTwo.keeps (h : TTwo B w b rb c rc l) (hK : Keeps [] w w1) : TTwo B w1 b rb c rc l := ⟨h.tab.keeps hK (by simp) (by simp), h.ref.keeps hK (by simp) (by simp), h.tg, h.new, h.apart⟩
theorem TTwo.refMid (h : TTwo B w b rb c rc l) (hK : Keeps [rb] w w1) : RTabAt w1 c rc l := h.ref.keeps hK (by simpa using h.apart.2.2.1.symm) (by simpa using h.apart.2.2.2.symm)
theorem TTwo.tabMid (h : TTwo B w b rb c rc l) (hK : Keeps [rc] w w1) : TableAt w1 b rb l := h.tab.keeps hK (by simpa using h.apart.2.1) (by simpa using h.apart.2.2.2)
theorem TTwo.step (h : TTwo B w0 b rb c rc l) (hK0 : Keeps [] w w0) (hg : Tg l') (hT : TableAt w1 b rb l') (hK1 : Keeps [rb] w0 w1) (hR : RTabAt w2 c rc l') (hK2 : Keeps [rc] w1 w2) (hK3 : Keeps [] w2 w3) :
    TTwo B w3 b rb c rc l' ∧ Keeps [rb, rc] w w3 :=
  ⟨⟨(hT.keeps hK2 (by simpa using h.apart.2.1) (by simpa using h.apart.2.2.2)).keeps hK3 (by simp) (by simp), hR.keeps hK3 (by simp) (by simp), hg, h.new, h.apart⟩, (((hK0.mono (by simp)).trans (hK1.mono (by simp))).trans (hK2.mono (by simp))).trans (hK3.mono (by simp))⟩
theorem TTwo.step2 (h : TTwo B w0 b rb c rc l) (hK0 : Keeps [] w w0) (hg : Tg l') (hR : RTabAt w1 c rc l') (hK1 : Keeps [rc] w0 w1) (hT : TableAt w2 b rb l') (hK2 : Keeps [rb] w1 w2) (hK3 : Keeps [] w2 w3) :
    TTwo B w3 b rb c rc l' ∧ Keeps [rb, rc] w w3 :=
  ⟨⟨hT.keeps hK3 (by simp) (by simp), (hR.keeps hK2 (by simpa using h.apart.2.2.1.symm) (by simpa using h.apart.2.2.2.symm)).keeps hK3 (by simp) (by simp), hg, h.new, h.apart⟩, (((hK0.mono (by simp)).trans (hK1.mono (by simp))).trans (hK2.mono (by simp))).trans (hK3.mono (by simp))⟩
theorem TTwo.gv (h : TTwo B w0 b rb c rc l) (hg : GV w0) (hB : 0 < B) {x y : Nat} (hx : x = rb ∨ x = rc) (hy : y = rb ∨ y = rc) (hK1 : Keeps [x] w0 w1) (hK2 : Keeps [y] w1 w2) : GV w2 := by
  obtain ⟨n1, n2, n3, n4⟩ := h.new
  exact (hg.keeps hK1 (by simp; omega)).keeps hK2 (by simp; omega)

/-- A store into the document's rows leaves the program's errors. -/
theorem errAt_over {v : Value} {ls : List (ByteArray × Int)} {k : Int} (hR : RTabAt w1 c rc l) (hK : Keeps [rc] w1 w2) (h : ErrAt w1 v ls k) : ErrAt w2 v ls k := by
  induction ls generalizing v with
  | nil => exact h
  | cons x ls ih =>
    obtain ⟨n, u, rfl, hB, hu⟩ := h
    refine ⟨n, u, rfl, hB.keeps hK ?_, ih hu⟩
    intro hm
    simp at hm
    subst hm
    exact absurd (hB.type hR.2.1) (by decide)
theorem errv_over {v : Value} {d : Option (List (ByteArray × Int) × Int)} (hR : RTabAt w1 c rc l) (hK : Keeps [rc] w1 w2) (h : ErrV w1 v d) : ErrV w2 v d := by
  cases d with
  | none => exact h
  | some x => exact errAt_over hR hK h
theorem docAt_over {v : Value} {d : Option (List (ByteArray × Int) × Int)} (hT : TableAt w1 b rb l) (hK : Keeps [rb] w1 w2) (h : DocAt w1 v d) : DocAt w2 v d := by
  cases d with
  | none => exact h
  | some x => exact ⟨h.1.over hT hK, h.2⟩
end

def IdPost (w : World) (e : Ending) (w' : World) : Prop := ∃ k, e = .returned (.int .u64 k) ∧ 0 ≤ k ∧ Keeps [] w w'

set_option maxRecDepth 100000 in
set_option maxHeartbeats 2000000 in
theorem id_any (c rc : Nat) (l : List TRow) (a0 a1 a2 a3 a4 : Int) (w : World) (hR : RTabAt w c rc l) (hg : Tg l) (h2 : 0 ≤ a2) (h1 : a1 ≤ 9223372036854775807) :
    Calls Tryd.prog 25 #[.pointer (some ⟨c, 0, none⟩), .agg #[.int .i64 a0, .int .i64 a1, .int .u64 a2, .int .u64 a3, .int .i64 a4]] w (IdPost w) := by
  have HR := hid hR
  have HG := hid hg
  have hR1 := hR.keeps ((Keeps.refl [] w).alloc (.cells #[.int .i64 a0, .int .i64 a1, .int .u64 a2, .int .u64 a3, .int .i64 a4] 42)) (by simp) (by simp)
  have HR1 := hid hR1
  have hlen := hR.2.2.2
  have htl : (threads l).length ≤ 64 := Nat.le_trans (List.length_filter_le _ _) hlen
  obtain ⟨X, hX⟩ : ∃ X, X = w.heap.size := ⟨_, rfl⟩
  have HB := hid (Blk.fresh_at hX #[.int .i64 a0, .int .i64 a1, .int .u64 a2, .int .u64 a3, .int .i64 a4] 42)
  have HK := hid ((Keeps.refl [] w).alloc (.cells #[.int .i64 a0, .int .i64 a1, .int .u64 a2, .int .u64 a3, .int .i64 a4] 42))
  clear hR hR1 hg
  go_enter Tryd.func25, Tryd.ntmps25
  go_wp2_with fail
  rw [← hX]
  generalize (w.alloc (.cells #[.int .i64 a0, .int .i64 a1, .int .u64 a2, .int .u64 a3, .int .i64 a4] 42)) = w0 at *
  clear hX
  refine (rall_any c rc l _ HR1.out HG.out).mono ?_
  rintro e w1 ⟨v, rfl, hO, hK1⟩
  obtain ⟨a, cap, rfl⟩ := len_form hO
  have hT := threads_of hO rfl
  have HT := hid hT
  have HB1 := HB.out.keeps hK1 (by simp)
  have c1 := HB1.cell (i := 1) rfl
  have c2 := HB1.cell (i := 2) rfl
  have HKK := hid (HK.out.trans hK1)
  have hal : ∀ (i : Nat) (r : TRow), (threads l)[i]? = some r → 0 ≤ r.id := by
    intro i r hr
    have hm := List.mem_filter.1 (List.mem_of_getElem? hr)
    obtain ⟨j, hj⟩ := List.getElem?_of_mem hm.1
    have := (HG.out.rows j r hj).1 hm.2
    omega
  have HAL := hid hal
  clear hO hT hK1 HB1 hal
  generalize hn : (threads l).length = n at *
  have HN := hid hn
  clear hn
  by_cases hw : a1 < 0
  · go_wp2_with fail
    go_ret
    exact ⟨a2, rfl, h2, HKK.out⟩
  · have hw0 : 0 ≤ a1 := by omega
    by_cases hn0 : n = 0
    · subst hn0
      go_wp2_with fail
      go_ret
      exact ⟨a2, rfl, h2, HKK.out⟩
    · have hn1 : 0 < n := by omega
      have hq0 : 0 ≤ a1 % (n : Int) := Int.emod_nonneg _ (by omega)
      have hq1 : a1 % (n : Int) < n := Int.emod_lt_of_pos _ (by omega)
      have hq2 : (a1 % (n : Int)).toNat < n := by omega
      obtain ⟨r, hr⟩ : ∃ r, (threads l)[(a1 % (n : Int)).toNat]? = some r := ⟨_, List.getElem?_eq_getElem (by rw [HN.out]; exact hq2)⟩
      obtain ⟨tb, rfl, _, q0, _⟩ := HT.out _ r hr
      have HRI := hid (HAL.out _ r hr)
      have b0 : ((n : Int) == 0) = false := by simp; omega
      have b1 : (n == 0) = false := by simp; omega
      clear hr hw
      generalize r.id = ri at *
      go_wp2_with fail
      go_ret
      exact ⟨ri, rfl, HRI.out, HKK.out⟩
end Go.Proofs.YtghgfopcnaoaiaaDoor
