/-
  The program's allocator and the document's: made together; a step of both; Map and Unmap by somebody else.
-/
import Derived.Test.YtmciclhifcjoiaaDoorPl1
namespace Go.Proofs.YtmciclhifcjoiaaDoor
open Go.RowKit

theorem pair_new {w w1 w2 w3 w4 : World} {b cb wb rb rwb rhb : Nat} {f t : Int} (h0 : 0 ≤ f) (h1 : f ≤ t) (h2 : t ≤ 1000) (hM : MemAt w1 b cb wb (MS.new 80)) (hK1 : Keeps [] w w1) (hb : w.heap.size ≤ b) (hcb : w.heap.size ≤ cb) (hwb : w.heap.size ≤ wb)
    (hR : RefAt w2 rb rwb rhb (MS.new 80)) (hK2 : Keeps [] w1 w2) (hrb : w1.heap.size ≤ rb) (hrwb : w1.heap.size ≤ rwb) (hrhb : w1.heap.size ≤ rhb)
    (hA : AllocAt w3 w3.heap.size w2.heap.size b (.slice none 0 0) ⟨f, t, []⟩) (hK3 : Keeps [] w2 w3) (hs3 : w3.heap.size = w2.heap.size + 1)
    (hRA : RAllocAt w4 w4.heap.size w3.heap.size rb (.slice none 0 0) ⟨f, t, []⟩) (hK4 : Keeps [] w3 w4) (hs4 : w4.heap.size = w3.heap.size + 1) :
    Pair w.heap.size w4 w4.heap.size w2.heap.size b cb wb w3.heap.size rb rwb rhb (.slice none 0 0) (.slice none 0 0) ⟨f, t, []⟩ (MS.new 80) ∧ Keeps [] w w4 := by
  have l1 := hM.lt
  have l2 := hR.lt
  have k1 := hK1.size
  have k2 := hK2.size
  have hinv := rinv_new 80 0 0 (by omega) (by omega) (by omega) (by omega)
  refine ⟨⟨⟨by omega, hA.2.1.keeps hK4 (by simp), World.ownsRow_nil _ _ _ _⟩, hRA, ((hM.keeps hK2 (by simp) (by simp) (by simp)).keeps hK3 (by simp) (by simp) (by simp)).keeps hK4 (by simp) (by simp) (by simp), (hR.keeps hK3 (by simp) (by simp) (by simp)).keeps hK4 (by simp) (by simp) (by simp), hinv.good, ⟨h0, by show t ≤ _; omega, h1, by simp⟩, h2, Nat.le_refl _, by omega, ⟨by omega, by omega, by omega, by omega, by omega⟩⟩, ((hK1.trans hK2).trans hK3).trans hK4⟩

section
variable {w w0 w1 w2 w3 : World} {base ab b cb wb rab rb rwb rhb : Nat} {lv lv' rlv rlv' : Value} {x x' : AS} {s s' : MS}

theorem pair_step (h : Pair w.heap.size w0 base ab b cb wb rab rb rwb rhb lv rlv x s) (hKw : Keeps [] w w0) (hg : s'.good) (ho : x'.ok) (ht : x'.til ≤ 1000) (hA : AllocAt w1 base ab b lv' x') (hM : MemAt w1 b cb wb s') (hK1 : Keeps ([ab, b, cb, wb] ++ lv.ownBlock.toList) w0 w1)
    (hR : RAllocAt w2 base rab rb rlv' x') (hF : RefAt w2 rb rwb rhb s') (hK2 : Keeps [rab, rb, rwb, rhb] w1 w2) (hK3 : Keeps [] w2 w3) :
    ∃ lv rlv x s, Pair w.heap.size w3 base ab b cb wb rab rb rwb rhb lv rlv x s ∧ Keeps [] w w3 :=
  ⟨lv', rlv', x', s', (h.both hg ho ht hA hM hK1 hR hF hK2).keeps hK3, ((hKw.drop hK1 (fun z hz => .inr (h.out1 z hz))).drop hK2 (fun z hz => .inr (h.out2 z hz))).trans hK3⟩

theorem pair_gv (h : Pair w.heap.size w0 base ab b cb wb rab rb rwb rhb lv rlv x s) (hg : GV w0) (hp : 0 < w.heap.size) (hK1 : Keeps ([ab, b, cb, wb] ++ lv.ownBlock.toList) w0 w1) (hK2 : Keeps [rab, rb, rwb, rhb] w1 w2) : GV w2 :=
  (hg.keeps hK1 (fun hm => by have := h.out1 _ hm; omega)).keeps hK2 (fun hm => by have := h.out2 _ hm; omega)
end

section
variable (base ab b cb wb rab rb rwb rhb : Nat) (lv rlv : Value) (x : AS) (s : MS) (hg : s.good)
  (hlow : b < base ∧ cb < base ∧ wb < base ∧ ab ≠ b ∧ ab ≠ cb ∧ ab ≠ wb) (hrlow : rb < base ∧ rwb < base ∧ rhb < base ∧ rab ≠ rb ∧ rab ≠ rwb ∧ rab ≠ rhb)
include hg hlow hrlow

omit hg hrlow in
theorem m_p {w w' : World} {s' : MS} {d : Option (List (ByteArray × Int) × Int)} {e : Ending} (hA : AllocAt w base ab b lv x) (h : MPost w b cb wb s' d e w') : PPost w base ab b cb wb lv x s' id d e w' := by
  obtain ⟨u, rfl, hE, hM, hK⟩ := h
  exact ⟨u, lv, rfl, hE, hA.keeps hK (by simp; omega) (by intro z hz; simp at hz; omega), hM, hK.mono (by intro z hz; simp at hz; simp; omega), fun g hg => .inl hg⟩
omit hg hlow in
theorem r_q {w w' : World} {s' : MS} {d : Option (List (ByteArray × Int) × Int)} {e : Ending} (hA : RAllocAt w base rab rb rlv x) (h : RPost w rb rwb rhb s' d e w') : QPost w base rab rb rwb rhb rlv x s' id d e w' := by
  obtain ⟨u, rfl, hE, hM, hK⟩ := h
  exact ⟨u, rlv, rfl, hE, hA.keeps hK (by simp; omega) (by intro z hz; simp at hz; omega), hM, hK.mono (by intro z hz; simp at hz ⊢; omega), fun g hg => .inl hg⟩

theorem map_pq (p : Int) (hp : p ≤ 9223372036854775807) : ∃ (d : Option (List (ByteArray × Int) × Int)) (s' : MS), s'.good ∧
    (∀ w, AllocAt w base ab b lv x → MemAt w b cb wb s → Calls Tryd.prog 20 #[.pointer (some ⟨b, 0, none⟩), .int .i64 p, .int .i64 1, .int .i64 64] w (PPost w base ab b cb wb lv x s' id d)) ∧
    (∀ w, RAllocAt w base rab rb rlv x → RefAt w rb rwb rhb s → Calls Tryd.prog 30 #[.pointer (some ⟨rb, 0, none⟩), .int .i64 p, .int .i64 1, .int .i64 64] w (QPost w base rab rb rwb rhb rlv x s' id d)) := by
  obtain ⟨d, s', _, hg', _, hm, hr⟩ := map_one b cb wb rb rwb rhb s hg p 1 64 hp
  exact ⟨d, s', hg', fun w hA hM => (hm w hM).mono fun e w' h => m_p base ab b cb wb lv x hlow hA h, fun w hR hF => (hr w hF).mono fun e w' h => r_q base rab rb rwb rhb rlv x hrlow hR h⟩
theorem unmap_pq (p : Int) (hp : p ≤ 9223372036854775807) : ∃ (d : Option (List (ByteArray × Int) × Int)) (s' : MS), s'.good ∧
    (∀ w, AllocAt w base ab b lv x → MemAt w b cb wb s → Calls Tryd.prog 25 #[.pointer (some ⟨b, 0, none⟩), .int .i64 p, .int .i64 1] w (PPost w base ab b cb wb lv x s' id d)) ∧
    (∀ w, RAllocAt w base rab rb rlv x → RefAt w rb rwb rhb s → Calls Tryd.prog 41 #[.pointer (some ⟨rb, 0, none⟩), .int .i64 p, .int .i64 1] w (QPost w base rab rb rwb rhb rlv x s' id d)) := by
  obtain ⟨d, s', _, hg', _, hm, hr⟩ := unmap_one b cb wb rb rwb rhb s hg p 1 hp
  exact ⟨d, s', hg', fun w hA hM => (hm w hM).mono fun e w' h => m_p base ab b cb wb lv x hlow hA h, fun w hR hF => (hr w hF).mono fun e w' h => r_q base rab rb rwb rhb rlv x hrlow hR h⟩
end

theorem Lie.lows {B base ab b cb wb rab rb rwb rhb : Nat} (h : Lie B base ab b cb wb rab rb rwb rhb) : (b < base ∧ cb < base ∧ wb < base ∧ ab ≠ b ∧ ab ≠ cb ∧ ab ≠ wb) ∧ (rb < base ∧ rwb < base ∧ rhb < base ∧ rab ≠ rb ∧ rab ≠ rwb ∧ rab ≠ rhb) := by
  obtain ⟨l1, l2, l3, l4, l5, l6, l7, l8⟩ := h.low
  obtain ⟨o1, o2, o3, o4, o5, o6⟩ := h.one
  exact ⟨⟨l1, l2, l3, o1, o2, o3⟩, ⟨l6, l7, l8, o4, o5, o6⟩⟩
end Go.Proofs.YtmciclhifcjoiaaDoor
