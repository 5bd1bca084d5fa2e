/-
  The program's memory and the document's, each call beside the other: what both answer, and that both are the same memory behind it.
-/
import Derived.Test.YtmciclhifcjoiaaDoorRef02e
namespace Go.Proofs.YtmciclhifcjoiaaDoor
open Go.RowKit

/-- A memory whose cells hold words, and that knows how many are there. -/
structure MS.good (s : MS) : Prop where
  ok : s.ok
  words : ∀ i : Nat, 0 ≤ s.hold.getD i 0 ∧ s.hold.getD i 0 ≤ 18446744073709551615
  count : s.there = cnt s.width

/-- An error that was just made (or none): it stays, whatever of the older blocks is written. -/
def ErrF (w w' : World) (u : Value) (d : Option (List (ByteArray × Int) × Int)) : Prop := ∀ (S : List Nat) (w'' : World), Keeps S w' w'' → (∀ x, x ∈ S → x < w.heap.size) → ErrV w'' u d
theorem errf_none (w w' : World) : ErrF w w' .nilIface none := fun _ _ _ _ => rfl
theorem errf_fresh (w : World) (n k : Int) : ErrF w (w.alloc (.cells #[.string memS, .int .i64 n, .iface 30 (.int .i64 k)] 97)) (.iface 93 (.pointer (some ⟨w.heap.size, 0, none⟩))) (some ([(memS, n)], k)) :=
  fun S _ h hS => ⟨_, _, rfl, (Blk.fresh w _ _).keeps h (fun hx => by have := hS _ hx; omega), rfl⟩

/-- What a call of the program's memory answers (an error, or none), and what the memory is then. -/
def MPost (w : World) (b cb wb : Nat) (s' : MS) (d : Option (List (ByteArray × Int) × Int)) (e : Ending) (w' : World) : Prop :=
  ∃ u, e = .returned u ∧ ErrF w w' u d ∧ MemAt w' b cb wb s' ∧ Keeps [b, cb, wb] w w'
def RPost (w : World) (b wb hb : Nat) (s' : MS) (d : Option (List (ByteArray × Int) × Int)) (e : Ending) (w' : World) : Prop :=
  ∃ u, e = .returned u ∧ DocAt w' u d ∧ RefAt w' b wb hb s' ∧ Keeps [b, wb, hb] w w'
/-- The same of an access: what the cell held, too. -/
def APost (w : World) (b cb wb : Nat) (s' : MS) (d : Option (List (ByteArray × Int) × Int)) (v : Int) (e : Ending) (w' : World) : Prop :=
  ∃ u, e = .returned (.tuple #[.int .u64 v, u]) ∧ ErrF w w' u d ∧ MemAt w' b cb wb s' ∧ Keeps [b, cb, wb] w w'
def BPost (w : World) (b wb hb : Nat) (s' : MS) (d : Option (List (ByteArray × Int) × Int)) (v : Int) (e : Ending) (w' : World) : Prop :=
  ∃ u, e = .returned (.tuple #[.int .u64 v, u]) ∧ DocAt w' u d ∧ RefAt w' b wb hb s' ∧ Keeps [b, wb, hb] w w'

theorem RefAt.there {w : World} {b wb hb : Nat} {s : MS} (t : Int) (h : RefAt w b wb hb s) : RefAt w b wb hb { s with there := t } := ⟨h.1, h.2.1, h.2.2.1, h.2.2.2.1, h.2.2.2.2.1, h.2.2.2.2.2.1, h.2.2.2.2.2.2.len, h.2.2.2.2.2.2.most, h.2.2.2.2.2.2.widths⟩

theorem fail_post {w w' : World} {b cb wb : Nat} {s : MS} (hM : MemAt w b cb wb s) {n k : Int} {e : Ending}
    (h : e = .returned (.iface 93 (.pointer (some ⟨w.heap.size, 0, none⟩))) ∧ w.alloc (.cells #[.string memS, .int .i64 n, .iface 30 (.int .i64 k)] 97) = w') :
    MPost w b cb wb s (some ([(memS, n)], k)) e w' := by
  obtain ⟨rfl, rfl⟩ := h
  exact ⟨_, rfl, errf_fresh w n k, hM.alloc _, (Keeps.refl _ _).alloc _⟩
theorem fail_post2 {w w' : World} {b cb wb : Nat} {s : MS} (hM : MemAt w b cb wb s) {n k : Int} {e : Ending}
    (h : e = .returned (.tuple #[.int .u64 0, .iface 93 (.pointer (some ⟨w.heap.size, 0, none⟩))]) ∧ w.alloc (.cells #[.string memS, .int .i64 n, .iface 30 (.int .i64 k)] 97) = w') :
    APost w b cb wb s (some ([(memS, n)], k)) 0 e w' := by
  obtain ⟨rfl, rfl⟩ := h
  exact ⟨_, rfl, errf_fresh w n k, hM.alloc _, (Keeps.refl _ _).alloc _⟩
theorem no_post {w w' : World} {b wb hb : Nat} {s : MS} (hM : RefAt w b wb hb s) {n k : Int} {e : Ending} (h1 : 1 ≤ k) (h2 : k ≤ 10)
    (h : NoPost w memS n k e w') : RPost w b wb hb s (some ([(memS, n)], k)) e w' := by
  obtain ⟨v, rfl, hF, hK⟩ := h
  exact ⟨v, rfl, ⟨hF, by simp, h1, h2⟩, hM.keeps hK (by simp) (by simp) (by simp), hK.mono (by simp)⟩

/-- The first of n cells from a on that is not as it should be, if there is one. -/
theorem all_or_first (l : List Int) (t : Bool) (a : Int) : ∀ k : Nat, allAre l t a k ∨ ∃ j, j < k ∧ allAre l t a j ∧ (l.getD (a.toNat + j) 0 != 0) ≠ t
  | 0 => Or.inl (fun i hi => by omega)
  | k + 1 => by
    rcases all_or_first l t a k with h | ⟨j, h1, h2, h3⟩
    · by_cases hq : (l.getD (a.toNat + k) 0 != 0) = t
      · refine Or.inl (fun i hi => ?_)
        rcases Nat.lt_or_ge i k with h4 | h4
        · exact h i h4
        · obtain rfl : i = k := by omega
          exact hq
      · exact Or.inr ⟨k, by omega, h, hq⟩
    · exact Or.inr ⟨j, by omega, h2, h3⟩

theorem fill_words {s : MS} (h : s.good) (a k : Nat) (i : Nat) : 0 ≤ (fill s.hold a 0 k).getD i 0 ∧ (fill s.hold a 0 k).getD i 0 ≤ 18446744073709551615 := by
  rw [fill_get]
  split
  · omega
  · exact h.words i

theorem cnt_le (l : List Int) : cnt l ≤ l.length := List.countP_le_length

theorem good_map {s : MS} (h : s.good) (a n v : Int) (h0 : 0 ≤ a) (hn : 1 ≤ n) (hin : a + n ≤ s.width.length) (hv : v = 32 ∨ v = 64) (hall : allAre s.width false a n.toNat) : (s.map a n v).good := by
  refine ⟨?_, fun i => fill_words h _ _ i, ?_⟩
  · obtain ⟨h1, h2, h3⟩ := MS.part_ok h.ok a n.toNat v (by omega)
    exact ⟨h1, h2, h3⟩
  · have hc := cnt_map s.width a.toNat v (by omega) n.toNat (by omega) hall
    have hl := cnt_le s.width
    have hm := h.ok.most
    have ht := h.count
    show wrap64 (s.there + n) = ((cnt (fill s.width a.toNat v n.toNat) : Nat) : Int)
    rw [hc, ht]
    unfold wrap64
    omega
theorem good_unmap {s : MS} (h : s.good) (a n : Int) (h0 : 0 ≤ a) (hn : 1 ≤ n) (hin : a + n ≤ s.width.length) (hall : allAre s.width true a n.toNat) : (s.unmap a n).good := by
  refine ⟨?_, fun i => fill_words h _ _ i, ?_⟩
  · obtain ⟨h1, h2, h3⟩ := MS.part_ok h.ok a n.toNat 0 (by omega)
    exact ⟨h1, h2, h3⟩
  · have hc := cnt_unmap s.width a.toNat n.toNat (by omega) hall
    have hl := cnt_le s.width
    have hm := h.ok.most
    have ht := h.count
    show wrap64 (s.there - n) = ((cnt (fill s.width a.toNat 0 n.toNat) : Nat) : Int)
    rw [ht]
    unfold wrap64
    omega
theorem good_tick {s : MS} (h : s.good) : s.tick.good := ⟨⟨h.ok.len, h.ok.most, h.ok.widths⟩, h.words, h.count⟩
theorem good_put {s : MS} (h : s.good) (i : Nat) (v : Int) (h0 : 0 ≤ v) (h1 : v ≤ 18446744073709551615) : (s.put i v).good := by
  refine ⟨⟨?_, h.ok.most, h.ok.widths⟩, ?_, h.count⟩
  · show (s.hold.set i v).length = _
    rw [List.length_set]
    exact h.ok.len
  · intro j
    show 0 ≤ (s.hold.set i v).getD j 0 ∧ (s.hold.set i v).getD j 0 ≤ _
    simp only [List.getD_eq_getElem?_getD, List.getElem?_set]
    by_cases hj : i = j
    · subst hj
      rw [if_pos rfl]
      split
      · simpa using ⟨h0, h1⟩
      · simp
    · rw [if_neg hj]
      have := h.words j
      simpa [List.getD_eq_getElem?_getD] using this
theorem good_acc {s : MS} (h : s.good) (k a o v : Int) (hv0 : 0 ≤ v) (hv1 : v ≤ 18446744073709551615) : (s.acc k a o v).good ∧ (s.acc k a o v).width = s.width := by
  refine ⟨?_, rfl⟩
  have hc := cut_range (s.width.getD a.toNat 0) v hv0 hv1
  have hs := sum_range (s.width.getD a.toNat 0) (s.hold.getD a.toNat 0) v
  have e : s.acc k a o v = s.put a.toNat (sumI (s.width.getD a.toNat 0) (s.hold.getD a.toNat 0) v) ∨ s.acc k a o v = s.put a.toNat (cutI (s.width.getD a.toNat 0) v) ∨ s.acc k a o v = s.tick := by
    unfold MS.acc MS.put MS.tick
    by_cases h3 : k = 3
    · simp [h3]
    · by_cases h4 : k = 4
      · subst h4
        by_cases hq : s.hold.getD a.toNat 0 = cutI (s.width.getD a.toNat 0) o
        · right; left; simp only [if_pos hq]; simp
        · right; right; simp only [if_neg hq]; simp
      · by_cases h12 : k = 1 ∨ k = 2
        · right; left; simp [h3, h4, h12]
        · right; right; simp [h3, h4, h12]
  rcases e with e | e | e
  · rw [e]; exact good_put h _ _ hs.1 hs.2
  · rw [e]; exact good_put h _ _ hc.1 hc.2
  · rw [e]; exact good_tick h

section
variable (b cb wb rb rwb rhb : Nat) (s : MS) (hg : s.good) (a n v : Int) (ha : a ≤ 9223372036854775807)
include hg ha

theorem map_both : ∃ (d : Option (List (ByteArray × Int) × Int)) (s' : MS), s'.good ∧ s'.width.length = s.width.length ∧
    (∀ w, MemAt w b cb wb s → Calls Tryd.prog 20 #[.pointer (some ⟨b, 0, none⟩), .int .i64 a, .int .i64 n, .int .i64 v] w (MPost w b cb wb s' d)) ∧
    (∀ w, RefAt w rb rwb rhb s → Calls Tryd.prog 30 #[.pointer (some ⟨rb, 0, none⟩), .int .i64 a, .int .i64 n, .int .i64 v] w (RPost w rb rwb rhb s' d)) := by
  by_cases h1 : n < 1 ∨ (v ≠ 32 ∧ v ≠ 64)
  · exact ⟨_, s, hg, rfl, fun w hM => (map_arg b a n w v h1).mono fun e w' h => fail_post hM h, fun w hM => (rmap_arg rb a n w v (by omega)).mono fun e w' h => no_post hM (by omega) (by omega) h⟩
  · have hn : 1 ≤ n := by omega
    have hv : v = 32 ∨ v = 64 := by omega
    by_cases h2 : 0 ≤ a ∧ a + n ≤ s.width.length
    · obtain ⟨h0, hin⟩ := h2
      rcases all_or_first s.width false a n.toNat with hall | ⟨j, hj, hall, hbad⟩
      · refine ⟨none, s.map a n v, good_map hg a n v h0 hn hin hv hall, by simp [MS.map, MS.part, fill_length], fun w hM => ?_, fun w hM => ?_⟩
        · exact (map_ok b cb wb s a n w hM h0 hn hin v hv hall).mono fun e w' ⟨he, hM', hK⟩ => ⟨_, he, errf_none _ _, hM', hK⟩
        · exact (rmap_ok rb rwb rhb s a n w hM h0 hn hin v hv hall).mono fun e w' ⟨he, hM', hK⟩ => ⟨_, he, rfl, hM'.there _, hK⟩
      · refine ⟨some ([(memS, a + j)], 4), s, hg, rfl, fun w hM => ?_, fun w hM => ?_⟩
        · exact (map_row b a n w v hn hv _ _ (row_block b cb wb s a n false w hM h0 (by omega) hin j (by omega) hall hbad)).mono fun e w' h => fail_post hM h
        · exact (rmap_block rb rwb rhb s a n w hM h0 hn hin v hv j (by omega) hall (by simpa using hbad)).mono fun e w' h => no_post hM (by omega) (by omega) h
    · refine ⟨some ([(memS, a)], 2), s, hg, rfl, fun w hM => ?_, fun w hM => ?_⟩
      · exact (map_row b a n w v hn hv _ _ (row_addr b cb wb s a n false w hM ha (by omega))).mono fun e w' h => fail_post hM h
      · exact (rmap_addr rb rwb rhb s a n w hM v hn ha hv h2).mono fun e w' h => no_post hM (by omega) (by omega) h

theorem unmap_both : ∃ (d : Option (List (ByteArray × Int) × Int)) (s' : MS), s'.good ∧ s'.width.length = s.width.length ∧
    (∀ w, MemAt w b cb wb s → Calls Tryd.prog 25 #[.pointer (some ⟨b, 0, none⟩), .int .i64 a, .int .i64 n] w (MPost w b cb wb s' d)) ∧
    (∀ w, RefAt w rb rwb rhb s → Calls Tryd.prog 41 #[.pointer (some ⟨rb, 0, none⟩), .int .i64 a, .int .i64 n] w (RPost w rb rwb rhb s' d)) := by
  by_cases hn : n < 1
  · exact ⟨_, s, hg, rfl, fun w hM => (unmap_arg b a n w hn).mono fun e w' h => fail_post hM h, fun w hM => (runmap_arg rb a n w hn).mono fun e w' h => no_post hM (by omega) (by omega) h⟩
  · have hn : 1 ≤ n := by omega
    by_cases h2 : 0 ≤ a ∧ a + n ≤ s.width.length
    · obtain ⟨h0, hin⟩ := h2
      rcases all_or_first s.width true a n.toNat with hall | ⟨j, hj, hall, hbad⟩
      · refine ⟨none, s.unmap a n, good_unmap hg a n h0 hn hin hall, by simp [MS.unmap, MS.part, fill_length], fun w hM => ?_, fun w hM => ?_⟩
        · exact (unmap_ok b cb wb s a n w hM h0 hn hin hall).mono fun e w' ⟨he, hM', hK⟩ => ⟨_, he, errf_none _ _, hM', hK⟩
        · exact (runmap_ok rb rwb rhb s a n w hM h0 hn hin hall).mono fun e w' ⟨he, hM', hK⟩ => ⟨_, he, rfl, hM'.there _, hK⟩
      · refine ⟨some ([(memS, a + j)], 4), s, hg, rfl, fun w hM => ?_, fun w hM => ?_⟩
        · exact (unmap_row b a n w hn _ _ (row_block b cb wb s a n true w hM h0 (by omega) hin j (by omega) hall hbad)).mono fun e w' h => fail_post hM h
        · exact (runmap_block rb rwb rhb s a n w hM h0 hn hin j (by omega) hall (by simpa using hbad)).mono fun e w' h => no_post hM (by omega) (by omega) h
    · refine ⟨some ([(memS, a)], 2), s, hg, rfl, fun w hM => ?_, fun w hM => ?_⟩
      · exact (unmap_row b a n w hn _ _ (row_addr b cb wb s a n true w hM ha (by omega))).mono fun e w' h => fail_post hM h
      · exact (runmap_addr rb a n w rwb rhb s hM hn ha h2).mono fun e w' h => no_post hM (by omega) (by omega) h
end

section
variable (b cb wb rb rwb rhb : Nat) (s : MS) (hg : s.good) (a o v : Int) (h0 : 0 ≤ a) (hv0 : 0 ≤ v) (hv1 : v ≤ 18446744073709551615) (ho0 : 0 ≤ o) (ho1 : o ≤ 18446744073709551615)
include hg h0 hv0 hv1 ho0 ho1

omit ho0 ho1 hv0 hv1 in
theorem dono_post {w : World} (o v : Int) (k : Int) (hw : s.width.getD a.toNat 0 = 0) (hM : RefAt w rb rwb rhb s) :
    Calls Tryd.prog 54 #[.pointer (some ⟨rb, 0, none⟩), .int .i64 k, .int .u64 a, .int .u64 o, .int .u64 v] w (BPost w rb rwb rhb s (some ([(memS, placeI a)], 2)) 0) := by
  have _ := hg
  exact (do_no rb rwb rhb s a o v w hM h0 k hw).mono fun e w' ⟨u, he, hF, hK⟩ => ⟨u, he, ⟨hF, by simp, by omega, by omega⟩, hM.keeps hK (by simp) (by simp) (by simp), hK.mono (by simp)⟩

omit ho0 ho1 in
theorem load_both : ∃ (d : Option (List (ByteArray × Int) × Int)) (s' : MS) (x : Int), s'.good ∧ s'.width.length = s.width.length ∧
    (∀ w, MemAt w b cb wb s → Calls Tryd.prog 26 #[.pointer (some ⟨b, 0, none⟩), .int .u64 a] w (APost w b cb wb s' d x)) ∧
    (∀ w, RefAt w rb rwb rhb s → Calls Tryd.prog 54 #[.pointer (some ⟨rb, 0, none⟩), .int .i64 0, .int .u64 a, .int .u64 o, .int .u64 v] w (BPost w rb rwb rhb s' d x)) := by
  have hh := hg.words a.toNat
  by_cases hw : s.width.getD a.toNat 0 = 0
  · exact ⟨_, s, 0, hg, rfl, fun w hM => (load_no b cb wb s a w hM h0 hw).mono fun e w' h => fail_post2 hM h, fun w hM => dono_post rb rwb rhb s hg a h0 o v 0 hw hM⟩
  · refine ⟨none, s.acc 0 a o v, s.hold.getD a.toNat 0, (good_acc hg 0 a o v hv0 hv1).1, rfl, fun w hM => ?_, fun w hM => ?_⟩
    · exact (load_ok b cb wb s a w hM h0 hw).mono fun e w' ⟨he, hM', hK⟩ => ⟨_, he, errf_none _ _, by rw [MS.acc_load]; exact hM', hK.mono (by simp)⟩
    · exact (do_load rb rwb rhb s a o v w hM h0 hw hh.1 hh.2).mono fun e w' ⟨he, hM', hK⟩ => ⟨_, he, rfl, hM', hK.mono (by simp)⟩

omit ho0 ho1 in
theorem swap_both : ∃ (d : Option (List (ByteArray × Int) × Int)) (s' : MS) (x : Int), s'.good ∧ s'.width.length = s.width.length ∧
    (∀ w, MemAt w b cb wb s → Calls Tryd.prog 52 #[.pointer (some ⟨b, 0, none⟩), .int .u64 a, .int .u64 v] w (APost w b cb wb s' d x)) ∧
    (∀ w, RefAt w rb rwb rhb s → Calls Tryd.prog 54 #[.pointer (some ⟨rb, 0, none⟩), .int .i64 2, .int .u64 a, .int .u64 o, .int .u64 v] w (BPost w rb rwb rhb s' d x)) := by
  have hh := hg.words a.toNat
  by_cases hw : s.width.getD a.toNat 0 = 0
  · exact ⟨_, s, 0, hg, rfl, fun w hM => (swap_no b cb wb s a v w hM h0 hw).mono fun e w' h => fail_post2 hM h, fun w hM => dono_post rb rwb rhb s hg a h0 o v 2 hw hM⟩
  · refine ⟨none, s.acc 2 a o v, s.hold.getD a.toNat 0, (good_acc hg 2 a o v hv0 hv1).1, rfl, fun w hM => ?_, fun w hM => ?_⟩
    · exact (swap_ok b cb wb s a v w hM h0 hw).mono fun e w' ⟨he, hM', hK⟩ => ⟨_, he, errf_none _ _, by rw [MS.acc_swap]; exact hM', hK.mono (by simp)⟩
    · exact (do_swap rb rwb rhb s a o v w hM h0 hw hv0 hv1 hh.1 hh.2).mono fun e w' ⟨he, hM', hK⟩ => ⟨_, he, rfl, hM', hK.mono (by simp)⟩

omit ho0 ho1 in
theorem add_both : ∃ (d : Option (List (ByteArray × Int) × Int)) (s' : MS) (x : Int), s'.good ∧ s'.width.length = s.width.length ∧
    (∀ w, MemAt w b cb wb s → Calls Tryd.prog 53 #[.pointer (some ⟨b, 0, none⟩), .int .u64 a, .int .u64 v] w (APost w b cb wb s' d x)) ∧
    (∀ w, RefAt w rb rwb rhb s → Calls Tryd.prog 54 #[.pointer (some ⟨rb, 0, none⟩), .int .i64 3, .int .u64 a, .int .u64 o, .int .u64 v] w (BPost w rb rwb rhb s' d x)) := by
  have hh := hg.words a.toNat
  by_cases hw : s.width.getD a.toNat 0 = 0
  · exact ⟨_, s, 0, hg, rfl, fun w hM => (add_no b cb wb s a v w hM h0 hw).mono fun e w' h => fail_post2 hM h, fun w hM => dono_post rb rwb rhb s hg a h0 o v 3 hw hM⟩
  · refine ⟨none, s.acc 3 a o v, s.hold.getD a.toNat 0, (good_acc hg 3 a o v hv0 hv1).1, rfl, fun w hM => ?_, fun w hM => ?_⟩
    · exact (add_ok b cb wb s a v w hM h0 hw).mono fun e w' ⟨he, hM', hK⟩ => ⟨_, he, errf_none _ _, by rw [MS.acc_add]; exact hM', hK.mono (by simp)⟩
    · exact (do_add rb rwb rhb s a o v w hM h0 hw hv0 hv1 hh.1 hh.2).mono fun e w' ⟨he, hM', hK⟩ => ⟨_, he, rfl, hM', hK.mono (by simp)⟩

theorem cas_both : ∃ (d : Option (List (ByteArray × Int) × Int)) (s' : MS) (x : Int), s'.good ∧ s'.width.length = s.width.length ∧
    (∀ w, MemAt w b cb wb s → Calls Tryd.prog 48 #[.pointer (some ⟨b, 0, none⟩), .int .u64 a, .int .u64 o, .int .u64 v] w (APost w b cb wb s' d x)) ∧
    (∀ w, RefAt w rb rwb rhb s → Calls Tryd.prog 54 #[.pointer (some ⟨rb, 0, none⟩), .int .i64 4, .int .u64 a, .int .u64 o, .int .u64 v] w (BPost w rb rwb rhb s' d x)) := by
  have hh := hg.words a.toNat
  by_cases hw : s.width.getD a.toNat 0 = 0
  · exact ⟨_, s, 0, hg, rfl, fun w hM => (cas_no b cb wb s a o v w hM h0 hw).mono fun e w' h => fail_post2 hM h, fun w hM => dono_post rb rwb rhb s hg a h0 o v 4 hw hM⟩
  · refine ⟨none, s.acc 4 a o v, s.hold.getD a.toNat 0, (good_acc hg 4 a o v hv0 hv1).1, rfl, fun w hM => ?_, fun w hM => ?_⟩
    · exact (cas_ok b cb wb s a o v w hM h0 hw).mono fun e w' ⟨he, hM', hK⟩ => ⟨_, he, errf_none _ _, hM', hK.mono (by simp)⟩
    · exact (do_cas rb rwb rhb s a o v w hM h0 hw hv0 hv1 ho0 ho1 hh.1 hh.2).mono fun e w' ⟨he, hM', hK⟩ => ⟨_, he, rfl, hM', hK.mono (by simp)⟩

omit ho0 ho1 in
theorem store_both : ∃ (d : Option (List (ByteArray × Int) × Int)) (s' : MS) (x : Int), s'.good ∧ s'.width.length = s.width.length ∧
    (∀ w, MemAt w b cb wb s → Calls Tryd.prog 24 #[.pointer (some ⟨b, 0, none⟩), .int .u64 a, .int .u64 v] w (MPost w b cb wb s' d)) ∧
    (∀ w, RefAt w rb rwb rhb s → Calls Tryd.prog 54 #[.pointer (some ⟨rb, 0, none⟩), .int .i64 1, .int .u64 a, .int .u64 o, .int .u64 v] w (BPost w rb rwb rhb s' d x)) := by
  have hh := hg.words a.toNat
  by_cases hw : s.width.getD a.toNat 0 = 0
  · exact ⟨_, s, 0, hg, rfl, fun w hM => (store_no b cb wb s a v w hM h0 hw).mono fun e w' h => fail_post hM h, fun w hM => dono_post rb rwb rhb s hg a h0 o v 1 hw hM⟩
  · refine ⟨none, s.acc 1 a o v, s.hold.getD a.toNat 0, (good_acc hg 1 a o v hv0 hv1).1, rfl, fun w hM => ?_, fun w hM => ?_⟩
    · exact (store_ok b cb wb s a v w hM h0 hw).mono fun e w' ⟨he, hM', hK⟩ => ⟨_, he, errf_none _ _, by rw [MS.acc_store]; exact hM', hK.mono (by simp)⟩
    · exact (do_store rb rwb rhb s a o v w hM h0 hw hv0 hv1 hh.1 hh.2).mono fun e w' ⟨he, hM', hK⟩ => ⟨_, he, rfl, hM', hK.mono (by simp)⟩
end
end Go.Proofs.YtmciclhifcjoiaaDoor
