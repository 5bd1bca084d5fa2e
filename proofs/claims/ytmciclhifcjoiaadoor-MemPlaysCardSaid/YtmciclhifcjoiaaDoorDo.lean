/-
  Chapter 2's statements: 'do', a call at the program's memory and at the document's: both tell alike, and are the same memory behind it. (Printed by gen_do.py.)
-/
import Derived.Test.YtmciclhifcjoiaaDoorBoth
import Derived.Test.YtmciclhifcjoiaaDoorRowIn
import Derived.Deep.RegionHeld3
namespace Go.Proofs.YtmciclhifcjoiaaDoor
open Go.RowKit

/-- The program's memory and the document's: the same cells. -/
structure Two (w : World) (b cb wb rb rwb rhb : Nat) (s : MS) : Prop where
  mem : MemAt w b cb wb s
  ref : RefAt w rb rwb rhb s
  good : s.good
  apart : b ≠ rb ∧ b ≠ rwb ∧ b ≠ rhb ∧ cb ≠ rb ∧ cb ≠ rwb ∧ cb ≠ rhb ∧ wb ≠ rb ∧ wb ≠ rwb ∧ wb ≠ rhb

theorem Two.keeps {S : List Nat} {w w' : World} {b cb wb rb rwb rhb : Nat} {s : MS} (h : Two w b cb wb rb rwb rhb s) (k : Keeps S w w') (h1 : ∀ x, x ∈ S → x ∉ [b, cb, wb, rb, rwb, rhb]) : Two w' b cb wb rb rwb rhb s :=
  ⟨h.mem.keeps k (fun hx => h1 _ hx (by simp)) (fun hx => h1 _ hx (by simp)) (fun hx => h1 _ hx (by simp)), h.ref.keeps k (fun hx => h1 _ hx (by simp)) (fun hx => h1 _ hx (by simp)) (fun hx => h1 _ hx (by simp)), h.good, h.apart⟩

def DoPost (w : World) (b cb wb rb rwb rhb : Nat) (s : MS) (e : Ending) (w' : World) : Prop :=
  e = .returned (.bool true) ∧ ∃ s', Two w' b cb wb rb rwb rhb s' ∧ s'.width.length = s.width.length ∧ Keeps [b, cb, wb, rb, rwb, rhb] w w'

/-- Behind both calls. -/
theorem two_behind {w w1 w2 w3 : World} {b cb wb rb rwb rhb : Nat} {s s' : MS} (h : Two w b cb wb rb rwb rhb s) (hg : s'.good) (hl : s'.width.length = s.width.length) (hM : MemAt w1 b cb wb s') (hK1 : Keeps [b, cb, wb] w w1)
    (hR : RefAt w2 rb rwb rhb s') (hK2 : Keeps [rb, rwb, rhb] w1 w2) (hK3 : Keeps [] w2 w3) : Two w3 b cb wb rb rwb rhb s' ∧ s'.width.length = s.width.length ∧ Keeps [b, cb, wb, rb, rwb, rhb] w w3 := by
  obtain ⟨a1, a2, a3, a4, a5, a6, a7, a8, a9⟩ := h.apart
  refine ⟨⟨(hM.keeps hK2 (by simp [*]) (by simp [*]) (by simp [*])).keeps hK3 (by simp) (by simp) (by simp), hR.keeps hK3 (by simp) (by simp) (by simp), hg, h.apart⟩, hl, ?_⟩
  exact ((hK1.mono (by intro x hx; simp at hx ⊢; omega)).trans (hK2.mono (by intro x hx; simp at hx ⊢; omega))).trans (hK3.mono (by intro x hx; simp at hx))
theorem ref_behind {w w1 : World} {b cb wb rb rwb rhb : Nat} {s : MS} (h : Two w b cb wb rb rwb rhb s) (hK1 : Keeps [b, cb, wb] w w1) : RefAt w1 rb rwb rhb s := by
  obtain ⟨a1, a2, a3, a4, a5, a6, a7, a8, a9⟩ := h.apart
  exact h.ref.keeps hK1 (by simp; omega) (by simp; omega) (by simp; omega)

theorem gv_ne_ints {w : World} {b : Nat} {k : IntKind} {l : List Int} {t : TypeId} (h : GV w) (hb : Blk w b (ints k l) t) : b ≠ 0 := by
  rintro rfl
  unfold GV at h
  unfold Blk at hb
  simp only [World.cell?, hb] at h
  cases l with
  | nil => simp [ints] at h
  | cons x l => simp [ints] at h
theorem gv_ne_slice {w : World} {b : Nat} {c : Array Value} {t : TypeId} {a : Option Addr} {n m : Nat} (h : GV w) (hb : Blk w b c t) (hc : c[0]? = some (.slice a n m)) : b ≠ 0 := by
  rintro rfl
  unfold GV at h
  have := hb.cell hc
  rw [this] at h
  cases h
theorem Two.gv {w : World} {b cb wb rb rwb rhb : Nat} {s : MS} (h : Two w b cb wb rb rwb rhb s) (hg : GV w) : 0 ∉ [b, cb, wb, rb, rwb, rhb] := by
  have h1 := gv_ne_slice hg h.mem.1 rfl
  have h2 := gv_ne_ints hg h.mem.2.1
  have h3 := gv_ne_ints hg h.mem.2.2.1
  have h4 := gv_ne_slice hg h.ref.1 rfl
  have h5 := gv_ne_ints hg h.ref.2.1
  have h6 := gv_ne_ints hg h.ref.2.2.1
  simp; omega
theorem Two.gv2 {w w1 w2 : World} {b cb wb rb rwb rhb : Nat} {s : MS} (h : Two w b cb wb rb rwb rhb s) (hg : GV w) (hK1 : Keeps [b, cb, wb] w w1) (hK2 : Keeps [rb, rwb, rhb] w1 w2) : GV w2 := by
  have h0 := h.gv hg
  simp at h0
  exact (hg.keeps hK1 (by simp; omega)).keeps hK2 (by simp; omega)

section
variable (b cb wb rb rwb rhb : Nat) (s : MS) (a0 a1 a2 a3 a4 a5 a6 : Int) (w : World) (hgv : GV w) (hT : Two w b cb wb rb rwb rhb s)
include hgv hT


set_option maxRecDepth 100000 in
set_option maxHeartbeats 4000000 in
theorem do_map (hq : a0 % 9 = 0) (ha : a1 ≤ 9223372036854775807) : Calls Tryd.prog 28 #[.pointer (some ⟨b, 0, none⟩), .pointer (some ⟨rb, 0, none⟩), .agg #[.int .i64 a0, .int .i64 a1, .int .i64 a2, .int .i64 a3, .int .u64 a4, .int .u64 a5, .int .u64 a6]] w (DoPost w b cb wb rb rwb rhb s) := by
  obtain ⟨d, s', hg', hl', hm, hr⟩ := map_both b cb wb rb rwb rhb s hT.good a1 a2 a3 ha
  have HT := hid hT
  have HG := hid hgv
  have HQ := hid hq
  clear hT hgv hq
  have c0 := (Blk.fresh w #[.int .i64 a0, .int .i64 a1, .int .i64 a2, .int .i64 a3, .int .u64 a4, .int .u64 a5, .int .u64 a6] 50).cell (i := 0) rfl
  go_enter Tryd.func28, Tryd.ntmps28
  go_wp2_with fail
  refine (within_any a0 9 _ (by omega) (by omega)).mono ?_
  rintro e w' ⟨rfl, rfl⟩
  rw [HQ.out]
  go_wp2_with fail
  obtain ⟨X, hX⟩ : ∃ X, X = w.heap.size := ⟨_, rfl⟩
  have HB := hid (Blk.fresh_at hX #[.int .i64 a0, .int .i64 a1, .int .i64 a2, .int .i64 a3, .int .u64 a4, .int .u64 a5, .int .u64 a6] 50)
  have HK := hid ((Keeps.refl [] w).alloc (.cells #[.int .i64 a0, .int .i64 a1, .int .i64 a2, .int .i64 a3, .int .u64 a4, .int .u64 a5, .int .u64 a6] 50))
  rw [← hX]
  generalize (w.alloc (.cells #[.int .i64 a0, .int .i64 a1, .int .i64 a2, .int .i64 a3, .int .u64 a4, .int .u64 a5, .int .u64 a6] 50)) = w0 at *
  have HXM : Hid (X ∉ [b, cb, wb, rb, rwb, rhb]) := by
    have hT := HT.out
    have l1 := hT.mem.lt
    have l2 := hT.ref.lt
    refine hid ?_
    simp; omega
  have HX1 : Hid (X ∉ [b, cb, wb]) := hid (by have := HXM.out; simp at this ⊢; omega)
  have HX2 : Hid (X ∉ [rb, rwb, rhb]) := hid (by have := HXM.out; simp at this ⊢; omega)
  have HX3 : Hid (X ∉ ([] : List Nat)) := hid (by simp)
  have HT0 : Hid (Two w0 b cb wb rb rwb rhb s) := hid (HT.out.keeps HK.out (by simp))
  have HG0 : Hid (GV w0) := hid (HG.out.keeps HK.out (by simp))
  have HL2 : Hid (∀ x, x ∈ [rb, rwb, rhb] → x < w0.drew.heap.size) := by
    have l2 := HT0.out.ref.lt
    refine hid ?_
    intro x hx
    simp at hx
    show x < w0.heap.size
    omega
  replace HB : Hid (Blk w0.drew X #[.int .i64 a0, .int .i64 a1, .int .i64 a2, .int .i64 a3, .int .u64 a4, .int .u64 a5, .int .u64 a6] 50) := hid HB.out
  replace HK : Hid (Keeps [] w w0.drew) := hid HK.out.drew
  replace HT0 : Hid (Two w0.drew b cb wb rb rwb rhb s) := hid ⟨HT0.out.mem, HT0.out.ref, HT0.out.good, HT0.out.apart⟩
  replace HG0 : Hid (GV w0.drew) := hid HG0.out
  clear c0 hX HT HG HXM
  have HM := hid hm
  have HR := hid hr
  clear hm hr
  go_region_held3 (fun W => W.cell? ⟨X, 1, none⟩ = some (.int .i64 a1) ∧ W.cell? ⟨X, 2, none⟩ = some (.int .i64 a2) ∧ W.cell? ⟨X, 3, none⟩ = some (.int .i64 a3)) (exact ⟨HB.out.cell (i := 1) rfl, HB.out.cell (i := 2) rfl, HB.out.cell (i := 3) rfl⟩) (first
    | (go_at_call 20; refine (HM.out _ HT0.out.mem).mono ?_; rintro e w1 ⟨u, rfl, hE1, hM1, hK1⟩; replace HB : Hid (Blk w1 X #[.int .i64 a0, .int .i64 a1, .int .i64 a2, .int .i64 a3, .int .u64 a4, .int .u64 a5, .int .u64 a6] 50) := hid (HB.out.keeps hK1 HX1.out))
    | (go_at_call 30; refine (HR.out _ (ref_behind HT0.out hK1)).mono ?_; rintro e w2 ⟨u2, rfl, hD2, hR2, hK2⟩; replace HB : Hid (Blk w2 X #[.int .i64 a0, .int .i64 a1, .int .i64 a2, .int .i64 a3, .int .u64 a4, .int .u64 a5, .int .u64 a6] 50) := hid (HB.out.keeps hK2 HX2.out))
    | (go_at_call 15; refine (same_any u u2 d _ (HT0.out.gv2 HG0.out hK1 hK2) (hE1 _ _ hK2 HL2.out) hD2).mono ?_; rintro e w3 ⟨rfl, hK3⟩; replace HB : Hid (Blk w3 X #[.int .i64 a0, .int .i64 a1, .int .i64 a2, .int .i64 a3, .int .u64 a4, .int .u64 a5, .int .u64 a6] 50) := hid (HB.out.keeps hK3 HX3.out)))
  go_wp2_with fail
  go_ret
  exact ⟨rfl, s', (two_behind HT0.out hg' hl' hM1 hK1 hR2 hK2 hK3).1, hl', (HK.out.mono (by simp)).trans (two_behind HT0.out hg' hl' hM1 hK1 hR2 hK2 hK3).2.2⟩

set_option maxRecDepth 100000 in
set_option maxHeartbeats 4000000 in
theorem do_unmap (hq : a0 % 9 = 1) (ha : a1 ≤ 9223372036854775807) : Calls Tryd.prog 28 #[.pointer (some ⟨b, 0, none⟩), .pointer (some ⟨rb, 0, none⟩), .agg #[.int .i64 a0, .int .i64 a1, .int .i64 a2, .int .i64 a3, .int .u64 a4, .int .u64 a5, .int .u64 a6]] w (DoPost w b cb wb rb rwb rhb s) := by
  obtain ⟨d, s', hg', hl', hm, hr⟩ := unmap_both b cb wb rb rwb rhb s hT.good a1 a2 ha
  have HT := hid hT
  have HG := hid hgv
  have HQ := hid hq
  clear hT hgv hq
  have c0 := (Blk.fresh w #[.int .i64 a0, .int .i64 a1, .int .i64 a2, .int .i64 a3, .int .u64 a4, .int .u64 a5, .int .u64 a6] 50).cell (i := 0) rfl
  go_enter Tryd.func28, Tryd.ntmps28
  go_wp2_with fail
  refine (within_any a0 9 _ (by omega) (by omega)).mono ?_
  rintro e w' ⟨rfl, rfl⟩
  rw [HQ.out]
  go_wp2_with fail
  obtain ⟨X, hX⟩ : ∃ X, X = w.heap.size := ⟨_, rfl⟩
  have HB := hid (Blk.fresh_at hX #[.int .i64 a0, .int .i64 a1, .int .i64 a2, .int .i64 a3, .int .u64 a4, .int .u64 a5, .int .u64 a6] 50)
  have HK := hid ((Keeps.refl [] w).alloc (.cells #[.int .i64 a0, .int .i64 a1, .int .i64 a2, .int .i64 a3, .int .u64 a4, .int .u64 a5, .int .u64 a6] 50))
  rw [← hX]
  generalize (w.alloc (.cells #[.int .i64 a0, .int .i64 a1, .int .i64 a2, .int .i64 a3, .int .u64 a4, .int .u64 a5, .int .u64 a6] 50)) = w0 at *
  have HXM : Hid (X ∉ [b, cb, wb, rb, rwb, rhb]) := by
    have hT := HT.out
    have l1 := hT.mem.lt
    have l2 := hT.ref.lt
    refine hid ?_
    simp; omega
  have HX1 : Hid (X ∉ [b, cb, wb]) := hid (by have := HXM.out; simp at this ⊢; omega)
  have HX2 : Hid (X ∉ [rb, rwb, rhb]) := hid (by have := HXM.out; simp at this ⊢; omega)
  have HX3 : Hid (X ∉ ([] : List Nat)) := hid (by simp)
  have HT0 : Hid (Two w0 b cb wb rb rwb rhb s) := hid (HT.out.keeps HK.out (by simp))
  have HG0 : Hid (GV w0) := hid (HG.out.keeps HK.out (by simp))
  have HL2 : Hid (∀ x, x ∈ [rb, rwb, rhb] → x < w0.drew.heap.size) := by
    have l2 := HT0.out.ref.lt
    refine hid ?_
    intro x hx
    simp at hx
    show x < w0.heap.size
    omega
  replace HB : Hid (Blk w0.drew X #[.int .i64 a0, .int .i64 a1, .int .i64 a2, .int .i64 a3, .int .u64 a4, .int .u64 a5, .int .u64 a6] 50) := hid HB.out
  replace HK : Hid (Keeps [] w w0.drew) := hid HK.out.drew
  replace HT0 : Hid (Two w0.drew b cb wb rb rwb rhb s) := hid ⟨HT0.out.mem, HT0.out.ref, HT0.out.good, HT0.out.apart⟩
  replace HG0 : Hid (GV w0.drew) := hid HG0.out
  clear c0 hX HT HG HXM
  have HM := hid hm
  have HR := hid hr
  clear hm hr
  go_region_held3 (fun W => W.cell? ⟨X, 1, none⟩ = some (.int .i64 a1) ∧ W.cell? ⟨X, 2, none⟩ = some (.int .i64 a2)) (exact ⟨HB.out.cell (i := 1) rfl, HB.out.cell (i := 2) rfl⟩) (first
    | (go_at_call 25; refine (HM.out _ HT0.out.mem).mono ?_; rintro e w1 ⟨u, rfl, hE1, hM1, hK1⟩; replace HB : Hid (Blk w1 X #[.int .i64 a0, .int .i64 a1, .int .i64 a2, .int .i64 a3, .int .u64 a4, .int .u64 a5, .int .u64 a6] 50) := hid (HB.out.keeps hK1 HX1.out))
    | (go_at_call 41; refine (HR.out _ (ref_behind HT0.out hK1)).mono ?_; rintro e w2 ⟨u2, rfl, hD2, hR2, hK2⟩; replace HB : Hid (Blk w2 X #[.int .i64 a0, .int .i64 a1, .int .i64 a2, .int .i64 a3, .int .u64 a4, .int .u64 a5, .int .u64 a6] 50) := hid (HB.out.keeps hK2 HX2.out))
    | (go_at_call 15; refine (same_any u u2 d _ (HT0.out.gv2 HG0.out hK1 hK2) (hE1 _ _ hK2 HL2.out) hD2).mono ?_; rintro e w3 ⟨rfl, hK3⟩; replace HB : Hid (Blk w3 X #[.int .i64 a0, .int .i64 a1, .int .i64 a2, .int .i64 a3, .int .u64 a4, .int .u64 a5, .int .u64 a6] 50) := hid (HB.out.keeps hK3 HX3.out)))
  go_wp2_with fail
  go_ret
  exact ⟨rfl, s', (two_behind HT0.out hg' hl' hM1 hK1 hR2 hK2 hK3).1, hl', (HK.out.mono (by simp)).trans (two_behind HT0.out hg' hl' hM1 hK1 hR2 hK2 hK3).2.2⟩

set_option maxRecDepth 100000 in
set_option maxHeartbeats 4000000 in
theorem do_width (hq : a0 % 9 = 2) (h4 : 0 ≤ a4) : Calls Tryd.prog 28 #[.pointer (some ⟨b, 0, none⟩), .pointer (some ⟨rb, 0, none⟩), .agg #[.int .i64 a0, .int .i64 a1, .int .i64 a2, .int .i64 a3, .int .u64 a4, .int .u64 a5, .int .u64 a6]] w (DoPost w b cb wb rb rwb rhb s) := by
  have HT := hid hT
  have HG := hid hgv
  have HQ := hid hq
  clear hT hgv hq
  have c0 := (Blk.fresh w #[.int .i64 a0, .int .i64 a1, .int .i64 a2, .int .i64 a3, .int .u64 a4, .int .u64 a5, .int .u64 a6] 50).cell (i := 0) rfl
  go_enter Tryd.func28, Tryd.ntmps28
  go_wp2_with fail
  refine (within_any a0 9 _ (by omega) (by omega)).mono ?_
  rintro e w' ⟨rfl, rfl⟩
  rw [HQ.out]
  go_wp2_with fail
  obtain ⟨X, hX⟩ : ∃ X, X = w.heap.size := ⟨_, rfl⟩
  have HB := hid (Blk.fresh_at hX #[.int .i64 a0, .int .i64 a1, .int .i64 a2, .int .i64 a3, .int .u64 a4, .int .u64 a5, .int .u64 a6] 50)
  have HK := hid ((Keeps.refl [] w).alloc (.cells #[.int .i64 a0, .int .i64 a1, .int .i64 a2, .int .i64 a3, .int .u64 a4, .int .u64 a5, .int .u64 a6] 50))
  rw [← hX]
  generalize (w.alloc (.cells #[.int .i64 a0, .int .i64 a1, .int .i64 a2, .int .i64 a3, .int .u64 a4, .int .u64 a5, .int .u64 a6] 50)) = w0 at *
  have HXM : Hid (X ∉ [b, cb, wb, rb, rwb, rhb]) := by
    have hT := HT.out
    have l1 := hT.mem.lt
    have l2 := hT.ref.lt
    refine hid ?_
    simp; omega
  have HX1 : Hid (X ∉ [b, cb, wb]) := hid (by have := HXM.out; simp at this ⊢; omega)
  have HX2 : Hid (X ∉ [rb, rwb, rhb]) := hid (by have := HXM.out; simp at this ⊢; omega)
  have HX3 : Hid (X ∉ ([] : List Nat)) := hid (by simp)
  have HT0 : Hid (Two w0 b cb wb rb rwb rhb s) := hid (HT.out.keeps HK.out (by simp))
  have HG0 : Hid (GV w0) := hid (HG.out.keeps HK.out (by simp))
  have HL2 : Hid (∀ x, x ∈ [rb, rwb, rhb] → x < w0.drew.heap.size) := by
    have l2 := HT0.out.ref.lt
    refine hid ?_
    intro x hx
    simp at hx
    show x < w0.heap.size
    omega
  clear c0 hX HT HG HXM
  have c4 := HB.out.cell (i := 4) rfl
  have HW1 := hid (fun n => width_any b cb wb s a4 (w0.drewN n) HT0.out.mem h4)
  have HW2 := hid (fun n => rwidth_any rb rwb rhb s a4 (w0.drewN n) HT0.out.ref h4)
  generalize s.width.getD a4.toNat 0 = wd at HW1 HW2
  have hww : (wd == wd) = true := by simp
  clear h4
  go_quiet (first
    | (go_at_call 21; exact quiet_s (HW1.out _))
    | (go_at_call 51; exact quiet_s (HW2.out _)))
  go_wp2_with fail
  go_ret
  exact ⟨rfl, s, ⟨HT0.out.mem, HT0.out.ref, HT0.out.good, HT0.out.apart⟩, rfl, (HK.out.mono (by simp)).drewN _⟩

set_option maxRecDepth 100000 in
set_option maxHeartbeats 4000000 in
theorem do_load3 (hq : a0 % 9 = 3) (h4 : 0 ≤ a4) (h60 : 0 ≤ a6) (h61 : a6 ≤ 18446744073709551615) : Calls Tryd.prog 28 #[.pointer (some ⟨b, 0, none⟩), .pointer (some ⟨rb, 0, none⟩), .agg #[.int .i64 a0, .int .i64 a1, .int .i64 a2, .int .i64 a3, .int .u64 a4, .int .u64 a5, .int .u64 a6]] w (DoPost w b cb wb rb rwb rhb s) := by
  obtain ⟨d, s', z, hg', hl', hm, hr⟩ := load_both b cb wb rb rwb rhb s hT.good a4 a5 a6 h4 h60 h61
  obtain ⟨X, hX⟩ : ∃ X, X = w.heap.size := ⟨_, rfl⟩
  have HB := hid (Blk.fresh_at hX #[.int .i64 a0, .int .i64 a1, .int .i64 a2, .int .i64 a3, .int .u64 a4, .int .u64 a5, .int .u64 a6] 50)
  have HK := hid ((Keeps.refl [] w).alloc (.cells #[.int .i64 a0, .int .i64 a1, .int .i64 a2, .int .i64 a3, .int .u64 a4, .int .u64 a5, .int .u64 a6] 50))
  have HT := hid hT
  have HG := hid hgv
  have HQ := hid hq
  have HM := hid hm
  have HR := hid hr
  clear hT hgv hq hm hr
  have b0 := (Blk.fresh w #[.int .i64 a0, .int .i64 a1, .int .i64 a2, .int .i64 a3, .int .u64 a4, .int .u64 a5, .int .u64 a6] 50).cell (i := 0) rfl
  have b4 := (Blk.fresh w #[.int .i64 a0, .int .i64 a1, .int .i64 a2, .int .i64 a3, .int .u64 a4, .int .u64 a5, .int .u64 a6] 50).cell (i := 4) rfl
  have b5 := (Blk.fresh w #[.int .i64 a0, .int .i64 a1, .int .i64 a2, .int .i64 a3, .int .u64 a4, .int .u64 a5, .int .u64 a6] 50).cell (i := 5) rfl
  have b6 := (Blk.fresh w #[.int .i64 a0, .int .i64 a1, .int .i64 a2, .int .i64 a3, .int .u64 a4, .int .u64 a5, .int .u64 a6] 50).cell (i := 6) rfl
  go_enter Tryd.func28, Tryd.ntmps28
  go_wp2_with fail
  refine (within_any a0 9 _ (by omega) (by omega)).mono ?_
  rintro e w' ⟨rfl, rfl⟩
  rw [HQ.out]
  go_wp2_with fail
  rw [← hX]
  generalize (w.alloc (.cells #[.int .i64 a0, .int .i64 a1, .int .i64 a2, .int .i64 a3, .int .u64 a4, .int .u64 a5, .int .u64 a6] 50)) = w0 at *
  have HXM : X ∉ [b, cb, wb, rb, rwb, rhb] := by
    have hT := HT.out
    have l1 := hT.mem.lt
    have l2 := hT.ref.lt
    simp; omega
  have HT0 : Hid (Two w0 b cb wb rb rwb rhb s) := hid (HT.out.keeps HK.out (by simp))
  have HG0 : Hid (GV w0) := hid (HG.out.keeps HK.out (by simp))
  have HL2 : Hid (∀ x, x ∈ [rb, rwb, rhb] → x < w0.heap.size) := by
    have l2 := HT0.out.ref.lt
    refine hid ?_
    intro x hx
    simp at hx
    omega
  clear b0 b4 b5 b6 hX HT HG
  refine (HM.out _ HT0.out.mem).mono ?_
  rintro e w1 ⟨u, rfl, hE1, hM1, hK1⟩
  have hB1 := HB.out.keeps hK1 (by simp at HXM ⊢; omega)
  have c4 := hB1.cell (i := 4) rfl
  have c5 := hB1.cell (i := 5) rfl
  have c6 := hB1.cell (i := 6) rfl
  have hR1 := ref_behind HT0.out hK1
  go_wp2_with fail
  refine (HR.out _ hR1).mono ?_
  rintro e w2 ⟨u2, rfl, hD2, hR2, hK2⟩
  clear c4 c5 c6 hB1 hR1 HB HXM
  go_wp2_with fail
  refine (same_any u u2 d _ (HT0.out.gv2 HG0.out hK1 hK2) (hE1 _ _ hK2 HL2.out) hD2).mono ?_
  rintro e w3 ⟨rfl, hK3⟩
  have hzz : (z == z) = true := by simp
  go_wp2_with fail
  go_ret
  exact ⟨rfl, s', (two_behind HT0.out hg' hl' hM1 hK1 hR2 hK2 hK3).1, hl', (HK.out.mono (by simp)).trans (two_behind HT0.out hg' hl' hM1 hK1 hR2 hK2 hK3).2.2⟩

set_option maxRecDepth 100000 in
set_option maxHeartbeats 4000000 in
theorem do_store4 (hq : a0 % 9 = 4) (h4 : 0 ≤ a4) (h60 : 0 ≤ a6) (h61 : a6 ≤ 18446744073709551615) : Calls Tryd.prog 28 #[.pointer (some ⟨b, 0, none⟩), .pointer (some ⟨rb, 0, none⟩), .agg #[.int .i64 a0, .int .i64 a1, .int .i64 a2, .int .i64 a3, .int .u64 a4, .int .u64 a5, .int .u64 a6]] w (DoPost w b cb wb rb rwb rhb s) := by
  obtain ⟨d, s', z, hg', hl', hm, hr⟩ := store_both b cb wb rb rwb rhb s hT.good a4 a5 a6 h4 h60 h61
  obtain ⟨X, hX⟩ : ∃ X, X = w.heap.size := ⟨_, rfl⟩
  have HB := hid (Blk.fresh_at hX #[.int .i64 a0, .int .i64 a1, .int .i64 a2, .int .i64 a3, .int .u64 a4, .int .u64 a5, .int .u64 a6] 50)
  have HK := hid ((Keeps.refl [] w).alloc (.cells #[.int .i64 a0, .int .i64 a1, .int .i64 a2, .int .i64 a3, .int .u64 a4, .int .u64 a5, .int .u64 a6] 50))
  have HT := hid hT
  have HG := hid hgv
  have HQ := hid hq
  have HM := hid hm
  have HR := hid hr
  clear hT hgv hq hm hr
  have b0 := (Blk.fresh w #[.int .i64 a0, .int .i64 a1, .int .i64 a2, .int .i64 a3, .int .u64 a4, .int .u64 a5, .int .u64 a6] 50).cell (i := 0) rfl
  have b4 := (Blk.fresh w #[.int .i64 a0, .int .i64 a1, .int .i64 a2, .int .i64 a3, .int .u64 a4, .int .u64 a5, .int .u64 a6] 50).cell (i := 4) rfl
  have b5 := (Blk.fresh w #[.int .i64 a0, .int .i64 a1, .int .i64 a2, .int .i64 a3, .int .u64 a4, .int .u64 a5, .int .u64 a6] 50).cell (i := 5) rfl
  have b6 := (Blk.fresh w #[.int .i64 a0, .int .i64 a1, .int .i64 a2, .int .i64 a3, .int .u64 a4, .int .u64 a5, .int .u64 a6] 50).cell (i := 6) rfl
  go_enter Tryd.func28, Tryd.ntmps28
  go_wp2_with fail
  refine (within_any a0 9 _ (by omega) (by omega)).mono ?_
  rintro e w' ⟨rfl, rfl⟩
  rw [HQ.out]
  go_wp2_with fail
  rw [← hX]
  generalize (w.alloc (.cells #[.int .i64 a0, .int .i64 a1, .int .i64 a2, .int .i64 a3, .int .u64 a4, .int .u64 a5, .int .u64 a6] 50)) = w0 at *
  have HXM : X ∉ [b, cb, wb, rb, rwb, rhb] := by
    have hT := HT.out
    have l1 := hT.mem.lt
    have l2 := hT.ref.lt
    simp; omega
  have HT0 : Hid (Two w0 b cb wb rb rwb rhb s) := hid (HT.out.keeps HK.out (by simp))
  have HG0 : Hid (GV w0) := hid (HG.out.keeps HK.out (by simp))
  have HL2 : Hid (∀ x, x ∈ [rb, rwb, rhb] → x < w0.heap.size) := by
    have l2 := HT0.out.ref.lt
    refine hid ?_
    intro x hx
    simp at hx
    omega
  clear b0 b4 b5 b6 hX HT HG
  refine (HM.out _ HT0.out.mem).mono ?_
  rintro e w1 ⟨u, rfl, hE1, hM1, hK1⟩
  have hB1 := HB.out.keeps hK1 (by simp at HXM ⊢; omega)
  have c4 := hB1.cell (i := 4) rfl
  have c5 := hB1.cell (i := 5) rfl
  have c6 := hB1.cell (i := 6) rfl
  have hR1 := ref_behind HT0.out hK1
  go_wp2_with fail
  refine (HR.out _ hR1).mono ?_
  rintro e w2 ⟨u2, rfl, hD2, hR2, hK2⟩
  clear c4 c5 c6 hB1 hR1 HB HXM
  go_wp2_with fail
  refine (same_any u u2 d _ (HT0.out.gv2 HG0.out hK1 hK2) (hE1 _ _ hK2 HL2.out) hD2).mono ?_
  rintro e w3 ⟨rfl, hK3⟩
  cases hz : ((0 : Int) == z) with
  | true =>
    go_wp2_with fail
    go_ret
    exact ⟨rfl, s', (two_behind HT0.out hg' hl' hM1 hK1 hR2 hK2 hK3).1, hl', (HK.out.mono (by simp)).trans (two_behind HT0.out hg' hl' hM1 hK1 hR2 hK2 hK3).2.2⟩
  | false =>
    go_wp2_with fail
    go_ret
    exact ⟨rfl, s', (two_behind HT0.out hg' hl' hM1 hK1 hR2 hK2 hK3).1, hl', (HK.out.mono (by simp)).trans (two_behind HT0.out hg' hl' hM1 hK1 hR2 hK2 hK3).2.2⟩

set_option maxRecDepth 100000 in
set_option maxHeartbeats 4000000 in
theorem do_swap5 (hq : a0 % 9 = 5) (h4 : 0 ≤ a4) (h60 : 0 ≤ a6) (h61 : a6 ≤ 18446744073709551615) : Calls Tryd.prog 28 #[.pointer (some ⟨b, 0, none⟩), .pointer (some ⟨rb, 0, none⟩), .agg #[.int .i64 a0, .int .i64 a1, .int .i64 a2, .int .i64 a3, .int .u64 a4, .int .u64 a5, .int .u64 a6]] w (DoPost w b cb wb rb rwb rhb s) := by
  obtain ⟨d, s', z, hg', hl', hm, hr⟩ := swap_both b cb wb rb rwb rhb s hT.good a4 a5 a6 h4 h60 h61
  obtain ⟨X, hX⟩ : ∃ X, X = w.heap.size := ⟨_, rfl⟩
  have HB := hid (Blk.fresh_at hX #[.int .i64 a0, .int .i64 a1, .int .i64 a2, .int .i64 a3, .int .u64 a4, .int .u64 a5, .int .u64 a6] 50)
  have HK := hid ((Keeps.refl [] w).alloc (.cells #[.int .i64 a0, .int .i64 a1, .int .i64 a2, .int .i64 a3, .int .u64 a4, .int .u64 a5, .int .u64 a6] 50))
  have HT := hid hT
  have HG := hid hgv
  have HQ := hid hq
  have HM := hid hm
  have HR := hid hr
  clear hT hgv hq hm hr
  have b0 := (Blk.fresh w #[.int .i64 a0, .int .i64 a1, .int .i64 a2, .int .i64 a3, .int .u64 a4, .int .u64 a5, .int .u64 a6] 50).cell (i := 0) rfl
  have b4 := (Blk.fresh w #[.int .i64 a0, .int .i64 a1, .int .i64 a2, .int .i64 a3, .int .u64 a4, .int .u64 a5, .int .u64 a6] 50).cell (i := 4) rfl
  have b5 := (Blk.fresh w #[.int .i64 a0, .int .i64 a1, .int .i64 a2, .int .i64 a3, .int .u64 a4, .int .u64 a5, .int .u64 a6] 50).cell (i := 5) rfl
  have b6 := (Blk.fresh w #[.int .i64 a0, .int .i64 a1, .int .i64 a2, .int .i64 a3, .int .u64 a4, .int .u64 a5, .int .u64 a6] 50).cell (i := 6) rfl
  go_enter Tryd.func28, Tryd.ntmps28
  go_wp2_with fail
  refine (within_any a0 9 _ (by omega) (by omega)).mono ?_
  rintro e w' ⟨rfl, rfl⟩
  rw [HQ.out]
  go_wp2_with fail
  rw [← hX]
  generalize (w.alloc (.cells #[.int .i64 a0, .int .i64 a1, .int .i64 a2, .int .i64 a3, .int .u64 a4, .int .u64 a5, .int .u64 a6] 50)) = w0 at *
  have HXM : X ∉ [b, cb, wb, rb, rwb, rhb] := by
    have hT := HT.out
    have l1 := hT.mem.lt
    have l2 := hT.ref.lt
    simp; omega
  have HT0 : Hid (Two w0 b cb wb rb rwb rhb s) := hid (HT.out.keeps HK.out (by simp))
  have HG0 : Hid (GV w0) := hid (HG.out.keeps HK.out (by simp))
  have HL2 : Hid (∀ x, x ∈ [rb, rwb, rhb] → x < w0.heap.size) := by
    have l2 := HT0.out.ref.lt
    refine hid ?_
    intro x hx
    simp at hx
    omega
  clear b0 b4 b5 b6 hX HT HG
  refine (HM.out _ HT0.out.mem).mono ?_
  rintro e w1 ⟨u, rfl, hE1, hM1, hK1⟩
  have hB1 := HB.out.keeps hK1 (by simp at HXM ⊢; omega)
  have c4 := hB1.cell (i := 4) rfl
  have c5 := hB1.cell (i := 5) rfl
  have c6 := hB1.cell (i := 6) rfl
  have hR1 := ref_behind HT0.out hK1
  go_wp2_with fail
  refine (HR.out _ hR1).mono ?_
  rintro e w2 ⟨u2, rfl, hD2, hR2, hK2⟩
  clear c4 c5 c6 hB1 hR1 HB HXM
  go_wp2_with fail
  refine (same_any u u2 d _ (HT0.out.gv2 HG0.out hK1 hK2) (hE1 _ _ hK2 HL2.out) hD2).mono ?_
  rintro e w3 ⟨rfl, hK3⟩
  have hzz : (z == z) = true := by simp
  go_wp2_with fail
  go_ret
  exact ⟨rfl, s', (two_behind HT0.out hg' hl' hM1 hK1 hR2 hK2 hK3).1, hl', (HK.out.mono (by simp)).trans (two_behind HT0.out hg' hl' hM1 hK1 hR2 hK2 hK3).2.2⟩

set_option maxRecDepth 100000 in
set_option maxHeartbeats 4000000 in
theorem do_add6 (hq : a0 % 9 = 6) (h4 : 0 ≤ a4) (h60 : 0 ≤ a6) (h61 : a6 ≤ 18446744073709551615) : Calls Tryd.prog 28 #[.pointer (some ⟨b, 0, none⟩), .pointer (some ⟨rb, 0, none⟩), .agg #[.int .i64 a0, .int .i64 a1, .int .i64 a2, .int .i64 a3, .int .u64 a4, .int .u64 a5, .int .u64 a6]] w (DoPost w b cb wb rb rwb rhb s) := by
  obtain ⟨d, s', z, hg', hl', hm, hr⟩ := add_both b cb wb rb rwb rhb s hT.good a4 a5 a6 h4 h60 h61
  obtain ⟨X, hX⟩ : ∃ X, X = w.heap.size := ⟨_, rfl⟩
  have HB := hid (Blk.fresh_at hX #[.int .i64 a0, .int .i64 a1, .int .i64 a2, .int .i64 a3, .int .u64 a4, .int .u64 a5, .int .u64 a6] 50)
  have HK := hid ((Keeps.refl [] w).alloc (.cells #[.int .i64 a0, .int .i64 a1, .int .i64 a2, .int .i64 a3, .int .u64 a4, .int .u64 a5, .int .u64 a6] 50))
  have HT := hid hT
  have HG := hid hgv
  have HQ := hid hq
  have HM := hid hm
  have HR := hid hr
  clear hT hgv hq hm hr
  have b0 := (Blk.fresh w #[.int .i64 a0, .int .i64 a1, .int .i64 a2, .int .i64 a3, .int .u64 a4, .int .u64 a5, .int .u64 a6] 50).cell (i := 0) rfl
  have b4 := (Blk.fresh w #[.int .i64 a0, .int .i64 a1, .int .i64 a2, .int .i64 a3, .int .u64 a4, .int .u64 a5, .int .u64 a6] 50).cell (i := 4) rfl
  have b5 := (Blk.fresh w #[.int .i64 a0, .int .i64 a1, .int .i64 a2, .int .i64 a3, .int .u64 a4, .int .u64 a5, .int .u64 a6] 50).cell (i := 5) rfl
  have b6 := (Blk.fresh w #[.int .i64 a0, .int .i64 a1, .int .i64 a2, .int .i64 a3, .int .u64 a4, .int .u64 a5, .int .u64 a6] 50).cell (i := 6) rfl
  go_enter Tryd.func28, Tryd.ntmps28
  go_wp2_with fail
  refine (within_any a0 9 _ (by omega) (by omega)).mono ?_
  rintro e w' ⟨rfl, rfl⟩
  rw [HQ.out]
  go_wp2_with fail
  rw [← hX]
  generalize (w.alloc (.cells #[.int .i64 a0, .int .i64 a1, .int .i64 a2, .int .i64 a3, .int .u64 a4, .int .u64 a5, .int .u64 a6] 50)) = w0 at *
  have HXM : X ∉ [b, cb, wb, rb, rwb, rhb] := by
    have hT := HT.out
    have l1 := hT.mem.lt
    have l2 := hT.ref.lt
    simp; omega
  have HT0 : Hid (Two w0 b cb wb rb rwb rhb s) := hid (HT.out.keeps HK.out (by simp))
  have HG0 : Hid (GV w0) := hid (HG.out.keeps HK.out (by simp))
  have HL2 : Hid (∀ x, x ∈ [rb, rwb, rhb] → x < w0.heap.size) := by
    have l2 := HT0.out.ref.lt
    refine hid ?_
    intro x hx
    simp at hx
    omega
  clear b0 b4 b5 b6 hX HT HG
  refine (HM.out _ HT0.out.mem).mono ?_
  rintro e w1 ⟨u, rfl, hE1, hM1, hK1⟩
  have hB1 := HB.out.keeps hK1 (by simp at HXM ⊢; omega)
  have c4 := hB1.cell (i := 4) rfl
  have c5 := hB1.cell (i := 5) rfl
  have c6 := hB1.cell (i := 6) rfl
  have hR1 := ref_behind HT0.out hK1
  go_wp2_with fail
  refine (HR.out _ hR1).mono ?_
  rintro e w2 ⟨u2, rfl, hD2, hR2, hK2⟩
  clear c4 c5 c6 hB1 hR1 HB HXM
  go_wp2_with fail
  refine (same_any u u2 d _ (HT0.out.gv2 HG0.out hK1 hK2) (hE1 _ _ hK2 HL2.out) hD2).mono ?_
  rintro e w3 ⟨rfl, hK3⟩
  have hzz : (z == z) = true := by simp
  go_wp2_with fail
  go_ret
  exact ⟨rfl, s', (two_behind HT0.out hg' hl' hM1 hK1 hR2 hK2 hK3).1, hl', (HK.out.mono (by simp)).trans (two_behind HT0.out hg' hl' hM1 hK1 hR2 hK2 hK3).2.2⟩

set_option maxRecDepth 100000 in
set_option maxHeartbeats 4000000 in
theorem do_cas7 (hq : a0 % 9 = 7) (h4 : 0 ≤ a4) (h60 : 0 ≤ a6) (h61 : a6 ≤ 18446744073709551615) (h50 : 0 ≤ a5) (h51 : a5 ≤ 18446744073709551615) : Calls Tryd.prog 28 #[.pointer (some ⟨b, 0, none⟩), .pointer (some ⟨rb, 0, none⟩), .agg #[.int .i64 a0, .int .i64 a1, .int .i64 a2, .int .i64 a3, .int .u64 a4, .int .u64 a5, .int .u64 a6]] w (DoPost w b cb wb rb rwb rhb s) := by
  obtain ⟨d, s', z, hg', hl', hm, hr⟩ := cas_both b cb wb rb rwb rhb s hT.good a4 a5 a6 h4 h60 h61 h50 h51
  obtain ⟨X, hX⟩ : ∃ X, X = w.heap.size := ⟨_, rfl⟩
  have HB := hid (Blk.fresh_at hX #[.int .i64 a0, .int .i64 a1, .int .i64 a2, .int .i64 a3, .int .u64 a4, .int .u64 a5, .int .u64 a6] 50)
  have HK := hid ((Keeps.refl [] w).alloc (.cells #[.int .i64 a0, .int .i64 a1, .int .i64 a2, .int .i64 a3, .int .u64 a4, .int .u64 a5, .int .u64 a6] 50))
  have HT := hid hT
  have HG := hid hgv
  have HQ := hid hq
  have HM := hid hm
  have HR := hid hr
  clear hT hgv hq hm hr
  have b0 := (Blk.fresh w #[.int .i64 a0, .int .i64 a1, .int .i64 a2, .int .i64 a3, .int .u64 a4, .int .u64 a5, .int .u64 a6] 50).cell (i := 0) rfl
  have b4 := (Blk.fresh w #[.int .i64 a0, .int .i64 a1, .int .i64 a2, .int .i64 a3, .int .u64 a4, .int .u64 a5, .int .u64 a6] 50).cell (i := 4) rfl
  have b5 := (Blk.fresh w #[.int .i64 a0, .int .i64 a1, .int .i64 a2, .int .i64 a3, .int .u64 a4, .int .u64 a5, .int .u64 a6] 50).cell (i := 5) rfl
  have b6 := (Blk.fresh w #[.int .i64 a0, .int .i64 a1, .int .i64 a2, .int .i64 a3, .int .u64 a4, .int .u64 a5, .int .u64 a6] 50).cell (i := 6) rfl
  go_enter Tryd.func28, Tryd.ntmps28
  go_wp2_with fail
  refine (within_any a0 9 _ (by omega) (by omega)).mono ?_
  rintro e w' ⟨rfl, rfl⟩
  rw [HQ.out]
  go_wp2_with fail
  rw [← hX]
  generalize (w.alloc (.cells #[.int .i64 a0, .int .i64 a1, .int .i64 a2, .int .i64 a3, .int .u64 a4, .int .u64 a5, .int .u64 a6] 50)) = w0 at *
  have HXM : X ∉ [b, cb, wb, rb, rwb, rhb] := by
    have hT := HT.out
    have l1 := hT.mem.lt
    have l2 := hT.ref.lt
    simp; omega
  have HT0 : Hid (Two w0 b cb wb rb rwb rhb s) := hid (HT.out.keeps HK.out (by simp))
  have HG0 : Hid (GV w0) := hid (HG.out.keeps HK.out (by simp))
  have HL2 : Hid (∀ x, x ∈ [rb, rwb, rhb] → x < w0.heap.size) := by
    have l2 := HT0.out.ref.lt
    refine hid ?_
    intro x hx
    simp at hx
    omega
  clear b0 b4 b5 b6 hX HT HG
  refine (HM.out _ HT0.out.mem).mono ?_
  rintro e w1 ⟨u, rfl, hE1, hM1, hK1⟩
  have hB1 := HB.out.keeps hK1 (by simp at HXM ⊢; omega)
  have c4 := hB1.cell (i := 4) rfl
  have c5 := hB1.cell (i := 5) rfl
  have c6 := hB1.cell (i := 6) rfl
  have hR1 := ref_behind HT0.out hK1
  go_wp2_with fail
  refine (HR.out _ hR1).mono ?_
  rintro e w2 ⟨u2, rfl, hD2, hR2, hK2⟩
  clear c4 c5 c6 hB1 hR1 HB HXM
  go_wp2_with fail
  refine (same_any u u2 d _ (HT0.out.gv2 HG0.out hK1 hK2) (hE1 _ _ hK2 HL2.out) hD2).mono ?_
  rintro e w3 ⟨rfl, hK3⟩
  have hzz : (z == z) = true := by simp
  go_wp2_with fail
  go_ret
  exact ⟨rfl, s', (two_behind HT0.out hg' hl' hM1 hK1 hR2 hK2 hK3).1, hl', (HK.out.mono (by simp)).trans (two_behind HT0.out hg' hl' hM1 hK1 hR2 hK2 hK3).2.2⟩

set_option maxRecDepth 100000 in
set_option maxHeartbeats 4000000 in
theorem do_cas8 (hq : a0 % 9 = 8) (h4 : 0 ≤ a4) (h60 : 0 ≤ a6) (h61 : a6 ≤ 18446744073709551615) (h50 : 0 ≤ a5) (h51 : a5 ≤ 18446744073709551615) : Calls Tryd.prog 28 #[.pointer (some ⟨b, 0, none⟩), .pointer (some ⟨rb, 0, none⟩), .agg #[.int .i64 a0, .int .i64 a1, .int .i64 a2, .int .i64 a3, .int .u64 a4, .int .u64 a5, .int .u64 a6]] w (DoPost w b cb wb rb rwb rhb s) := by
  obtain ⟨d, s', z, hg', hl', hm, hr⟩ := cas_both b cb wb rb rwb rhb s hT.good a4 a5 a6 h4 h60 h61 h50 h51
  obtain ⟨X, hX⟩ : ∃ X, X = w.heap.size := ⟨_, rfl⟩
  have HB := hid (Blk.fresh_at hX #[.int .i64 a0, .int .i64 a1, .int .i64 a2, .int .i64 a3, .int .u64 a4, .int .u64 a5, .int .u64 a6] 50)
  have HK := hid ((Keeps.refl [] w).alloc (.cells #[.int .i64 a0, .int .i64 a1, .int .i64 a2, .int .i64 a3, .int .u64 a4, .int .u64 a5, .int .u64 a6] 50))
  have HT := hid hT
  have HG := hid hgv
  have HQ := hid hq
  have HM := hid hm
  have HR := hid hr
  clear hT hgv hq hm hr
  have b0 := (Blk.fresh w #[.int .i64 a0, .int .i64 a1, .int .i64 a2, .int .i64 a3, .int .u64 a4, .int .u64 a5, .int .u64 a6] 50).cell (i := 0) rfl
  have b4 := (Blk.fresh w #[.int .i64 a0, .int .i64 a1, .int .i64 a2, .int .i64 a3, .int .u64 a4, .int .u64 a5, .int .u64 a6] 50).cell (i := 4) rfl
  have b5 := (Blk.fresh w #[.int .i64 a0, .int .i64 a1, .int .i64 a2, .int .i64 a3, .int .u64 a4, .int .u64 a5, .int .u64 a6] 50).cell (i := 5) rfl
  have b6 := (Blk.fresh w #[.int .i64 a0, .int .i64 a1, .int .i64 a2, .int .i64 a3, .int .u64 a4, .int .u64 a5, .int .u64 a6] 50).cell (i := 6) rfl
  go_enter Tryd.func28, Tryd.ntmps28
  go_wp2_with fail
  refine (within_any a0 9 _ (by omega) (by omega)).mono ?_
  rintro e w' ⟨rfl, rfl⟩
  rw [HQ.out]
  go_wp2_with fail
  rw [← hX]
  generalize (w.alloc (.cells #[.int .i64 a0, .int .i64 a1, .int .i64 a2, .int .i64 a3, .int .u64 a4, .int .u64 a5, .int .u64 a6] 50)) = w0 at *
  have HXM : X ∉ [b, cb, wb, rb, rwb, rhb] := by
    have hT := HT.out
    have l1 := hT.mem.lt
    have l2 := hT.ref.lt
    simp; omega
  have HT0 : Hid (Two w0 b cb wb rb rwb rhb s) := hid (HT.out.keeps HK.out (by simp))
  have HG0 : Hid (GV w0) := hid (HG.out.keeps HK.out (by simp))
  have HL2 : Hid (∀ x, x ∈ [rb, rwb, rhb] → x < w0.heap.size) := by
    have l2 := HT0.out.ref.lt
    refine hid ?_
    intro x hx
    simp at hx
    omega
  clear b0 b4 b5 b6 hX HT HG
  refine (HM.out _ HT0.out.mem).mono ?_
  rintro e w1 ⟨u, rfl, hE1, hM1, hK1⟩
  have hB1 := HB.out.keeps hK1 (by simp at HXM ⊢; omega)
  have c4 := hB1.cell (i := 4) rfl
  have c5 := hB1.cell (i := 5) rfl
  have c6 := hB1.cell (i := 6) rfl
  have hR1 := ref_behind HT0.out hK1
  go_wp2_with fail
  refine (HR.out _ hR1).mono ?_
  rintro e w2 ⟨u2, rfl, hD2, hR2, hK2⟩
  clear c4 c5 c6 hB1 hR1 HB HXM
  go_wp2_with fail
  refine (same_any u u2 d _ (HT0.out.gv2 HG0.out hK1 hK2) (hE1 _ _ hK2 HL2.out) hD2).mono ?_
  rintro e w3 ⟨rfl, hK3⟩
  have hzz : (z == z) = true := by simp
  go_wp2_with fail
  go_ret
  exact ⟨rfl, s', (two_behind HT0.out hg' hl' hM1 hK1 hR2 hK2 hK3).1, hl', (HK.out.mono (by simp)).trans (two_behind HT0.out hg' hl' hM1 hK1 hR2 hK2 hK3).2.2⟩

/-- Any call. -/
theorem do_any (ha : a1 ≤ 9223372036854775807) (h4 : 0 ≤ a4) (h50 : 0 ≤ a5) (h51 : a5 ≤ 18446744073709551615) (h60 : 0 ≤ a6) (h61 : a6 ≤ 18446744073709551615) : Calls Tryd.prog 28 #[.pointer (some ⟨b, 0, none⟩), .pointer (some ⟨rb, 0, none⟩), .agg #[.int .i64 a0, .int .i64 a1, .int .i64 a2, .int .i64 a3, .int .u64 a4, .int .u64 a5, .int .u64 a6]] w (DoPost w b cb wb rb rwb rhb s) := by
  have h : a0 % 9 = 0 ∨ a0 % 9 = 1 ∨ a0 % 9 = 2 ∨ a0 % 9 = 3 ∨ a0 % 9 = 4 ∨ a0 % 9 = 5 ∨ a0 % 9 = 6 ∨ a0 % 9 = 7 ∨ a0 % 9 = 8 := by omega
  rcases h with h | h | h | h | h | h | h | h | h
  · exact do_map b cb wb rb rwb rhb s a0 a1 a2 a3 a4 a5 a6 w hgv hT h ha
  · exact do_unmap b cb wb rb rwb rhb s a0 a1 a2 a3 a4 a5 a6 w hgv hT h ha
  · exact do_width b cb wb rb rwb rhb s a0 a1 a2 a3 a4 a5 a6 w hgv hT h h4
  · exact do_load3 b cb wb rb rwb rhb s a0 a1 a2 a3 a4 a5 a6 w hgv hT h h4 h60 h61
  · exact do_store4 b cb wb rb rwb rhb s a0 a1 a2 a3 a4 a5 a6 w hgv hT h h4 h60 h61
  · exact do_swap5 b cb wb rb rwb rhb s a0 a1 a2 a3 a4 a5 a6 w hgv hT h h4 h60 h61
  · exact do_add6 b cb wb rb rwb rhb s a0 a1 a2 a3 a4 a5 a6 w hgv hT h h4 h60 h61
  · exact do_cas7 b cb wb rb rwb rhb s a0 a1 a2 a3 a4 a5 a6 w hgv hT h h4 h60 h61 h50 h51
  · exact do_cas8 b cb wb rb rwb rhb s a0 a1 a2 a3 a4 a5 a6 w hgv hT h h4 h60 h61 h50 h51
end
end Go.Proofs.YtmciclhifcjoiaaDoor
