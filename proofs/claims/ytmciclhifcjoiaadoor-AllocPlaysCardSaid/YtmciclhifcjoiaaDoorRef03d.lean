/-
  Map and Unmap of both memories: no error, or one of one layer.
-/
import Derived.Test.YtmciclhifcjoiaaDoorRef03c
namespace Go.Proofs.YtmciclhifcjoiaaDoor
open Go.RowKit

def OneLayer (d : Option (List (ByteArray × Int) × Int)) : Prop := d = none ∨ ∃ (p k : Int), d = some ([(memS, p)], k) ∧ 1 ≤ k ∧ k ≤ 10

section
variable (b cb wb rb rwb rhb : Nat) (s : MS) (hg : s.good) (a n v : Int) (ha : a ≤ 9223372036854775807)
include hg ha

theorem map_one : ∃ (d : Option (List (ByteArray × Int) × Int)) (s' : MS), OneLayer d ∧ s'.good ∧ s'.width.length = s.width.length ∧
    (∀ w, MemAt w b cb wb s → Calls Tryd.prog 20 #[.pointer (some ⟨b, 0, none⟩), .int .i64 a, .int .i64 n, .int .i64 v] w (MPost w b cb wb s' d)) ∧
    (∀ w, RefAt w rb rwb rhb s → Calls Tryd.prog 30 #[.pointer (some ⟨rb, 0, none⟩), .int .i64 a, .int .i64 n, .int .i64 v] w (RPost w rb rwb rhb s' d)) := by
  by_cases h1 : n < 1 ∨ (v ≠ 32 ∧ v ≠ 64)
  · exact ⟨some ([(memS, 0)], 1), s, .inr ⟨_, _, rfl, by omega, by omega⟩, hg, rfl, fun w hM => (map_arg b a n w v h1).mono fun e w' h => fail_post hM h, fun w hM => (rmap_arg rb a n w v (by omega)).mono fun e w' h => no_post hM (by omega) (by omega) h⟩
  · have hn : 1 ≤ n := by omega
    have hv : v = 32 ∨ v = 64 := by omega
    by_cases h2 : 0 ≤ a ∧ a + n ≤ s.width.length
    · obtain ⟨h0, hin⟩ := h2
      rcases all_or_first s.width false a n.toNat with hall | ⟨j, hj, hall, hbad⟩
      · refine ⟨none, s.map a n v, .inl rfl, good_map hg a n v h0 hn hin hv hall, by simp [MS.map, MS.part, fill_length], fun w hM => ?_, fun w hM => ?_⟩
        · exact (map_ok b cb wb s a n w hM h0 hn hin v hv hall).mono fun e w' ⟨he, hM', hK⟩ => ⟨_, he, errf_none _ _, hM', hK⟩
        · exact (rmap_ok rb rwb rhb s a n w hM h0 hn hin v hv hall).mono fun e w' ⟨he, hM', hK⟩ => ⟨_, he, rfl, hM'.there _, hK⟩
      · refine ⟨some ([(memS, a + j)], 4), s, .inr ⟨_, _, rfl, by omega, by omega⟩, hg, rfl, fun w hM => ?_, fun w hM => ?_⟩
        · exact (map_row b a n w v hn hv _ _ (row_block b cb wb s a n false w hM h0 (by omega) hin j (by omega) hall hbad)).mono fun e w' h => fail_post hM h
        · exact (rmap_block rb rwb rhb s a n w hM h0 hn hin v hv j (by omega) hall (by simpa using hbad)).mono fun e w' h => no_post hM (by omega) (by omega) h
    · refine ⟨some ([(memS, a)], 2), s, .inr ⟨_, _, rfl, by omega, by omega⟩, hg, rfl, fun w hM => ?_, fun w hM => ?_⟩
      · exact (map_row b a n w v hn hv _ _ (row_addr b cb wb s a n false w hM ha (by omega))).mono fun e w' h => fail_post hM h
      · exact (rmap_addr rb rwb rhb s a n w hM v hn ha hv h2).mono fun e w' h => no_post hM (by omega) (by omega) h

theorem unmap_one : ∃ (d : Option (List (ByteArray × Int) × Int)) (s' : MS), OneLayer d ∧ s'.good ∧ s'.width.length = s.width.length ∧
    (∀ w, MemAt w b cb wb s → Calls Tryd.prog 25 #[.pointer (some ⟨b, 0, none⟩), .int .i64 a, .int .i64 n] w (MPost w b cb wb s' d)) ∧
    (∀ w, RefAt w rb rwb rhb s → Calls Tryd.prog 41 #[.pointer (some ⟨rb, 0, none⟩), .int .i64 a, .int .i64 n] w (RPost w rb rwb rhb s' d)) := by
  by_cases hn : n < 1
  · exact ⟨some ([(memS, 0)], 1), s, .inr ⟨_, _, rfl, by omega, by omega⟩, hg, rfl, fun w hM => (unmap_arg b a n w hn).mono fun e w' h => fail_post hM h, fun w hM => (runmap_arg rb a n w hn).mono fun e w' h => no_post hM (by omega) (by omega) h⟩
  · have hn : 1 ≤ n := by omega
    by_cases h2 : 0 ≤ a ∧ a + n ≤ s.width.length
    · obtain ⟨h0, hin⟩ := h2
      rcases all_or_first s.width true a n.toNat with hall | ⟨j, hj, hall, hbad⟩
      · refine ⟨none, s.unmap a n, .inl rfl, good_unmap hg a n h0 hn hin hall, by simp [MS.unmap, MS.part, fill_length], fun w hM => ?_, fun w hM => ?_⟩
        · exact (unmap_ok b cb wb s a n w hM h0 hn hin hall).mono fun e w' ⟨he, hM', hK⟩ => ⟨_, he, errf_none _ _, hM', hK⟩
        · exact (runmap_ok rb rwb rhb s a n w hM h0 hn hin hall).mono fun e w' ⟨he, hM', hK⟩ => ⟨_, he, rfl, hM'.there _, hK⟩
      · refine ⟨some ([(memS, a + j)], 4), s, .inr ⟨_, _, rfl, by omega, by omega⟩, hg, rfl, fun w hM => ?_, fun w hM => ?_⟩
        · exact (unmap_row b a n w hn _ _ (row_block b cb wb s a n true w hM h0 (by omega) hin j (by omega) hall hbad)).mono fun e w' h => fail_post hM h
        · exact (runmap_block rb rwb rhb s a n w hM h0 hn hin j (by omega) hall (by simpa using hbad)).mono fun e w' h => no_post hM (by omega) (by omega) h
    · refine ⟨some ([(memS, a)], 2), s, .inr ⟨_, _, rfl, by omega, by omega⟩, hg, rfl, fun w hM => ?_, fun w hM => ?_⟩
      · exact (unmap_row b a n w hn _ _ (row_addr b cb wb s a n true w hM ha (by omega))).mono fun e w' h => fail_post hM h
      · exact (runmap_addr rb a n w rwb rhb s hM hn ha h2).mono fun e w' h => no_post hM (by omega) (by omega) h
end
end Go.Proofs.YtmciclhifcjoiaaDoor
