/-
  Chapter 11's statements: 'do', a call at the program's table and at the document's: both tell alike, and have the same rows behind it. (Printed by gen_rt4.py.)
-/
import Derived.Test.YtghgfopcnaoaiaaDoorRt4
import Derived.Test.YtghgfopcnaoaiaaDoorRowIn
import Derived.Deep.RegionHeld3
namespace Go.Proofs.YtghgfopcnaoaiaaDoor
open Go.RowKit

def TDoPost (B : Nat) (w : World) (b rb c rc k : Nat) (e : Ending) (w' : World) : Prop := e = .returned (.bool true) ∧ ∃ l', TTwo B w' b rb c rc l' ∧ Tm (k + 1) l' ∧ Keeps [rb, rc] w w'

section
variable (B b rb c rc k : Nat) (l : List TRow) (a0 a1 a2 a3 a4 : Int) (w : World) (hgv : GV w) (hB0 : 0 < B) (hT : TTwo B w b rb c rc l) (hm : Tm k l) (hk : k ≤ 100) (h1 : a1 ≤ 9223372036854775807) (h2 : 0 ≤ a2) (h3 : 0 ≤ a3)
include hgv hB0 hT hm hk h1 h2 h3

omit hk in
set_option maxRecDepth 100000 in
set_option maxHeartbeats 4000000 in
theorem tdo_be (hq : a0 % 10 = 3) : Calls Tryd.prog 26 #[.pointer (some ⟨b, 0, none⟩), .pointer (some ⟨c, 0, none⟩), .agg #[.int .i64 a0, .int .i64 a1, .int .u64 a2, .int .u64 a3, .int .i64 a4]] w (TDoPost B w b rb c rc k) := by
  have HTW := hid hT
  have HG := hid hgv
  have HQ := hid hq
  have HBZ := hid hB0
  have HM := hid hm
  have H3 := hid h3
  have H2 := hid h2
  have H1 := hid h1
  clear hT hgv hq hB0 hm h1 h2 h3
  obtain ⟨X, hX⟩ : ∃ X, X = w.heap.size := ⟨_, rfl⟩
  have HB := hid (Blk.fresh_at hX #[.int .i64 a0, .int .i64 a1, .int .u64 a2, .int .u64 a3, .int .i64 a4] 42)
  have HK := hid ((Keeps.refl [] w).alloc (.cells #[.int .i64 a0, .int .i64 a1, .int .u64 a2, .int .u64 a3, .int .i64 a4] 42))
  have HXR : Hid (X ∉ [rb]) := hid (by have := HTW.out.tab.lt; simp; omega)
  have HXC : Hid (X ∉ [rc]) := hid (by have := HTW.out.ref.lt; simp; omega)
  have HXE : Hid (X ∉ ([] : List Nat)) := hid (by simp)
  have c0 := (Blk.fresh w #[.int .i64 a0, .int .i64 a1, .int .u64 a2, .int .u64 a3, .int .i64 a4] 42).cell (i := 0) rfl
  have c1 := (Blk.fresh w #[.int .i64 a0, .int .i64 a1, .int .u64 a2, .int .u64 a3, .int .i64 a4] 42).cell (i := 1) rfl
  have c2 := (Blk.fresh w #[.int .i64 a0, .int .i64 a1, .int .u64 a2, .int .u64 a3, .int .i64 a4] 42).cell (i := 2) rfl
  have c3 := (Blk.fresh w #[.int .i64 a0, .int .i64 a1, .int .u64 a2, .int .u64 a3, .int .i64 a4] 42).cell (i := 3) rfl
  have c4 := (Blk.fresh w #[.int .i64 a0, .int .i64 a1, .int .u64 a2, .int .u64 a3, .int .i64 a4] 42).cell (i := 4) rfl
  go_enter Tryd.func26, Tryd.ntmps26
  go_wp2_with fail
  rw [← hX]
  clear c0 c1 c2 c3 c4
  generalize (w.alloc (.cells #[.int .i64 a0, .int .i64 a1, .int .u64 a2, .int .u64 a3, .int .i64 a4] 42)) = w0 at *
  refine (id_any c rc l a0 a1 a2 a3 a4 _ (HTW.out.ref.keeps HK.out (by simp) (by simp)) HTW.out.tg H2.out H1.out).mono ?_
  rintro e wi ⟨id, rfl, hid0, hKi⟩
  have HI := hid hid0
  have HT0 := hid ((HTW.out.keeps HK.out).keeps hKi)
  have HG0 := hid ((HG.out.keeps HK.out (by simp)).keeps hKi (by simp))
  replace HB : Hid (Blk wi X #[.int .i64 a0, .int .i64 a1, .int .u64 a2, .int .u64 a3, .int .i64 a4] 42) := hid (HB.out.keeps hKi (by simp))
  replace HK : Hid (Keeps [] w wi) := hid (HK.out.trans hKi)
  clear hX hid0 hKi
  have c0 := HB.out.cell (i := 0) rfl
  go_wp2_with fail
  refine (within_any a0 10 _ (by omega) (by omega)).mono ?_
  rintro e w' ⟨rfl, rfl⟩
  clear c0
  rw [HQ.out]
  go_wp2_with fail
  replace HT0 : Hid (TTwo B wi.drew b rb c rc l) := hid (HT0.out.keeps ((Keeps.refl [] _).drew))
  replace HG0 : Hid (GV wi.drew) := hid HG0.out
  replace HB : Hid (Blk wi.drew X #[.int .i64 a0, .int .i64 a1, .int .u64 a2, .int .u64 a3, .int .i64 a4] 42) := hid HB.out
  replace HK : Hid (Keeps [] w wi.drew) := hid HK.out.drew
  go_region_held3 (fun W => W.cell? ⟨X, 4, none⟩ = some (.int .i64 a4)) (exact HB.out.cell (i := 4) rfl) (first
    | (go_at_call 20; refine (be_any b rb l id a4 _ HT0.out.tab HI.out).mono ?_; rintro e w1 ⟨u, rfl, hE1, hT1, hK1⟩; replace HB : Hid (Blk w1 X #[.int .i64 a0, .int .i64 a1, .int .u64 a2, .int .u64 a3, .int .i64 a4] 42) := hid (HB.out.keeps hK1 HXR.out))
    | (go_at_call 37; refine (rbe_any c rc l id a4 _ (HT0.out.refMid hK1) HT0.out.tg).mono ?_; rintro e w2 ⟨u2, rfl, hD2, hR2, hK2⟩; replace HB : Hid (Blk w2 X #[.int .i64 a0, .int .i64 a1, .int .u64 a2, .int .u64 a3, .int .i64 a4] 42) := hid (HB.out.keeps hK2 HXC.out))
    | (go_at_call 10; refine (same_any u u2 _ _ (HT0.out.gv HG0.out HBZ.out (.inl rfl) (.inr rfl) hK1 hK2) (errv_over (HT0.out.refMid hK1) hK2 hE1) hD2).mono ?_; rintro e w3 ⟨rfl, hK3⟩; replace HB : Hid (Blk w3 X #[.int .i64 a0, .int .i64 a1, .int .u64 a2, .int .u64 a3, .int .i64 a4] 42) := hid (HB.out.keeps hK3 HXE.out)))
  go_wp2_with fail
  go_ret
  obtain ⟨g1, g2⟩ := HT0.out.tg.sg HM.out (sg_be l id a4)
  obtain ⟨s1, s2⟩ := HT0.out.step HK.out g1 hT1 hK1 hR2 hK2 hK3
  exact ⟨rfl, _, s1, g2, s2⟩

omit hk in
set_option maxRecDepth 100000 in
set_option maxHeartbeats 4000000 in
theorem tdo_join (hq : a0 % 10 = 4) : Calls Tryd.prog 26 #[.pointer (some ⟨b, 0, none⟩), .pointer (some ⟨c, 0, none⟩), .agg #[.int .i64 a0, .int .i64 a1, .int .u64 a2, .int .u64 a3, .int .i64 a4]] w (TDoPost B w b rb c rc k) := by
  have HTW := hid hT
  have HG := hid hgv
  have HQ := hid hq
  have HBZ := hid hB0
  have HM := hid hm
  have H3 := hid h3
  have H2 := hid h2
  have H1 := hid h1
  clear hT hgv hq hB0 hm h1 h2 h3
  obtain ⟨X, hX⟩ : ∃ X, X = w.heap.size := ⟨_, rfl⟩
  have HB := hid (Blk.fresh_at hX #[.int .i64 a0, .int .i64 a1, .int .u64 a2, .int .u64 a3, .int .i64 a4] 42)
  have HK := hid ((Keeps.refl [] w).alloc (.cells #[.int .i64 a0, .int .i64 a1, .int .u64 a2, .int .u64 a3, .int .i64 a4] 42))
  have HXR : Hid (X ∉ [rb]) := hid (by have := HTW.out.tab.lt; simp; omega)
  have HXC : Hid (X ∉ [rc]) := hid (by have := HTW.out.ref.lt; simp; omega)
  have HXE : Hid (X ∉ ([] : List Nat)) := hid (by simp)
  have c0 := (Blk.fresh w #[.int .i64 a0, .int .i64 a1, .int .u64 a2, .int .u64 a3, .int .i64 a4] 42).cell (i := 0) rfl
  have c1 := (Blk.fresh w #[.int .i64 a0, .int .i64 a1, .int .u64 a2, .int .u64 a3, .int .i64 a4] 42).cell (i := 1) rfl
  have c2 := (Blk.fresh w #[.int .i64 a0, .int .i64 a1, .int .u64 a2, .int .u64 a3, .int .i64 a4] 42).cell (i := 2) rfl
  have c3 := (Blk.fresh w #[.int .i64 a0, .int .i64 a1, .int .u64 a2, .int .u64 a3, .int .i64 a4] 42).cell (i := 3) rfl
  have c4 := (Blk.fresh w #[.int .i64 a0, .int .i64 a1, .int .u64 a2, .int .u64 a3, .int .i64 a4] 42).cell (i := 4) rfl
  go_enter Tryd.func26, Tryd.ntmps26
  go_wp2_with fail
  rw [← hX]
  clear c0 c1 c2 c3 c4
  generalize (w.alloc (.cells #[.int .i64 a0, .int .i64 a1, .int .u64 a2, .int .u64 a3, .int .i64 a4] 42)) = w0 at *
  refine (id_any c rc l a0 a1 a2 a3 a4 _ (HTW.out.ref.keeps HK.out (by simp) (by simp)) HTW.out.tg H2.out H1.out).mono ?_
  rintro e wi ⟨id, rfl, hid0, hKi⟩
  have HI := hid hid0
  have HT0 := hid ((HTW.out.keeps HK.out).keeps hKi)
  have HG0 := hid ((HG.out.keeps HK.out (by simp)).keeps hKi (by simp))
  replace HB : Hid (Blk wi X #[.int .i64 a0, .int .i64 a1, .int .u64 a2, .int .u64 a3, .int .i64 a4] 42) := hid (HB.out.keeps hKi (by simp))
  replace HK : Hid (Keeps [] w wi) := hid (HK.out.trans hKi)
  clear hX hid0 hKi
  have c0 := HB.out.cell (i := 0) rfl
  go_wp2_with fail
  refine (within_any a0 10 _ (by omega) (by omega)).mono ?_
  rintro e w' ⟨rfl, rfl⟩
  clear c0
  rw [HQ.out]
  go_wp2_with fail
  replace HT0 : Hid (TTwo B wi.drew b rb c rc l) := hid (HT0.out.keeps ((Keeps.refl [] _).drew))
  replace HG0 : Hid (GV wi.drew) := hid HG0.out
  replace HB : Hid (Blk wi.drew X #[.int .i64 a0, .int .i64 a1, .int .u64 a2, .int .u64 a3, .int .i64 a4] 42) := hid HB.out
  replace HK : Hid (Keeps [] w wi.drew) := hid HK.out.drew
  go_region_held3 (fun W => W.cell? ⟨X, 3, none⟩ = some (.int .u64 a3)) (exact HB.out.cell (i := 3) rfl) (first
    | (go_at_call 23; refine (join_any b rb l id a3 _ HT0.out.tab HI.out).mono ?_; rintro e w1 ⟨u, rfl, hE1, hT1, hK1⟩; replace HB : Hid (Blk w1 X #[.int .i64 a0, .int .i64 a1, .int .u64 a2, .int .u64 a3, .int .i64 a4] 42) := hid (HB.out.keeps hK1 HXR.out))
    | (go_at_call 38; refine (rjoin_any c rc l id a3 _ (HT0.out.refMid hK1) HT0.out.tg).mono ?_; rintro e w2 ⟨u2, rfl, hD2, hR2, hK2⟩; replace HB : Hid (Blk w2 X #[.int .i64 a0, .int .i64 a1, .int .u64 a2, .int .u64 a3, .int .i64 a4] 42) := hid (HB.out.keeps hK2 HXC.out))
    | (go_at_call 10; refine (same_any u u2 _ _ (HT0.out.gv HG0.out HBZ.out (.inl rfl) (.inr rfl) hK1 hK2) (errv_over (HT0.out.refMid hK1) hK2 hE1) hD2).mono ?_; rintro e w3 ⟨rfl, hK3⟩; replace HB : Hid (Blk w3 X #[.int .i64 a0, .int .i64 a1, .int .u64 a2, .int .u64 a3, .int .i64 a4] 42) := hid (HB.out.keeps hK3 HXE.out)))
  go_wp2_with fail
  go_ret
  obtain ⟨g1, g2⟩ := HT0.out.tg.sg HM.out (sg_join l id a3)
  obtain ⟨s1, s2⟩ := HT0.out.step HK.out g1 hT1 hK1 hR2 hK2 hK3
  exact ⟨rfl, _, s1, g2, s2⟩

omit hk in
set_option maxRecDepth 100000 in
set_option maxHeartbeats 4000000 in
theorem tdo_loose (hq : a0 % 10 = 5) : Calls Tryd.prog 26 #[.pointer (some ⟨b, 0, none⟩), .pointer (some ⟨c, 0, none⟩), .agg #[.int .i64 a0, .int .i64 a1, .int .u64 a2, .int .u64 a3, .int .i64 a4]] w (TDoPost B w b rb c rc k) := by
  have HTW := hid hT
  have HG := hid hgv
  have HQ := hid hq
  have HBZ := hid hB0
  have HM := hid hm
  have H3 := hid h3
  have H2 := hid h2
  have H1 := hid h1
  clear hT hgv hq hB0 hm h1 h2 h3
  obtain ⟨X, hX⟩ : ∃ X, X = w.heap.size := ⟨_, rfl⟩
  have HB := hid (Blk.fresh_at hX #[.int .i64 a0, .int .i64 a1, .int .u64 a2, .int .u64 a3, .int .i64 a4] 42)
  have HK := hid ((Keeps.refl [] w).alloc (.cells #[.int .i64 a0, .int .i64 a1, .int .u64 a2, .int .u64 a3, .int .i64 a4] 42))
  have HXR : Hid (X ∉ [rb]) := hid (by have := HTW.out.tab.lt; simp; omega)
  have HXC : Hid (X ∉ [rc]) := hid (by have := HTW.out.ref.lt; simp; omega)
  have HXE : Hid (X ∉ ([] : List Nat)) := hid (by simp)
  have c0 := (Blk.fresh w #[.int .i64 a0, .int .i64 a1, .int .u64 a2, .int .u64 a3, .int .i64 a4] 42).cell (i := 0) rfl
  have c1 := (Blk.fresh w #[.int .i64 a0, .int .i64 a1, .int .u64 a2, .int .u64 a3, .int .i64 a4] 42).cell (i := 1) rfl
  have c2 := (Blk.fresh w #[.int .i64 a0, .int .i64 a1, .int .u64 a2, .int .u64 a3, .int .i64 a4] 42).cell (i := 2) rfl
  have c3 := (Blk.fresh w #[.int .i64 a0, .int .i64 a1, .int .u64 a2, .int .u64 a3, .int .i64 a4] 42).cell (i := 3) rfl
  have c4 := (Blk.fresh w #[.int .i64 a0, .int .i64 a1, .int .u64 a2, .int .u64 a3, .int .i64 a4] 42).cell (i := 4) rfl
  go_enter Tryd.func26, Tryd.ntmps26
  go_wp2_with fail
  rw [← hX]
  clear c0 c1 c2 c3 c4
  generalize (w.alloc (.cells #[.int .i64 a0, .int .i64 a1, .int .u64 a2, .int .u64 a3, .int .i64 a4] 42)) = w0 at *
  refine (id_any c rc l a0 a1 a2 a3 a4 _ (HTW.out.ref.keeps HK.out (by simp) (by simp)) HTW.out.tg H2.out H1.out).mono ?_
  rintro e wi ⟨id, rfl, hid0, hKi⟩
  have HI := hid hid0
  have HT0 := hid ((HTW.out.keeps HK.out).keeps hKi)
  have HG0 := hid ((HG.out.keeps HK.out (by simp)).keeps hKi (by simp))
  replace HB : Hid (Blk wi X #[.int .i64 a0, .int .i64 a1, .int .u64 a2, .int .u64 a3, .int .i64 a4] 42) := hid (HB.out.keeps hKi (by simp))
  replace HK : Hid (Keeps [] w wi) := hid (HK.out.trans hKi)
  clear hX hid0 hKi
  have c0 := HB.out.cell (i := 0) rfl
  go_wp2_with fail
  refine (within_any a0 10 _ (by omega) (by omega)).mono ?_
  rintro e w' ⟨rfl, rfl⟩
  clear c0
  rw [HQ.out]
  go_wp2_with fail
  refine (rloose_any c rc l id _ HT0.out.ref HT0.out.tg).mono ?_
  rintro e w1 ⟨hh, ff, u2, rfl, hD1, hR1, hK1⟩
  have HD1 := hid hD1
  have HK1 := hid hK1
  clear hD1 hK1
  go_wp2_with fail
  refine (loose_any b rb l id _ (HT0.out.tabMid HK1.out) HI.out).mono ?_
  rintro e w2 ⟨u, rfl, hE2, hT2, hK2⟩
  have HE2 := hid hE2
  have HK2 := hid hK2
  clear hE2 hK2
  go_wp2_with fail
  refine (same_any u u2 _ _ (HT0.out.gv HG0.out HBZ.out (.inr rfl) (.inl rfl) HK1.out HK2.out) HE2.out (docAt_over (HT0.out.tabMid HK1.out) HK2.out HD1.out)).mono ?_
  rintro e w3 ⟨rfl, hK3⟩
  go_wp2_with fail
  go_ret
  obtain ⟨g1, g2⟩ := HT0.out.tg.sg HM.out (sg_loose l id)
  obtain ⟨s1, s2⟩ := HT0.out.step2 HK.out g1 hR1 HK1.out hT2 HK2.out hK3
  exact ⟨rfl, _, s1, g2, s2⟩

omit hk in
set_option maxRecDepth 100000 in
set_option maxHeartbeats 4000000 in
theorem tdo_end6 (hq : a0 % 10 = 6) : Calls Tryd.prog 26 #[.pointer (some ⟨b, 0, none⟩), .pointer (some ⟨c, 0, none⟩), .agg #[.int .i64 a0, .int .i64 a1, .int .u64 a2, .int .u64 a3, .int .i64 a4]] w (TDoPost B w b rb c rc k) := by
  have HTW := hid hT
  have HG := hid hgv
  have HQ := hid hq
  have HBZ := hid hB0
  have HM := hid hm
  have H3 := hid h3
  have H2 := hid h2
  have H1 := hid h1
  clear hT hgv hq hB0 hm h1 h2 h3
  obtain ⟨X, hX⟩ : ∃ X, X = w.heap.size := ⟨_, rfl⟩
  have HB := hid (Blk.fresh_at hX #[.int .i64 a0, .int .i64 a1, .int .u64 a2, .int .u64 a3, .int .i64 a4] 42)
  have HK := hid ((Keeps.refl [] w).alloc (.cells #[.int .i64 a0, .int .i64 a1, .int .u64 a2, .int .u64 a3, .int .i64 a4] 42))
  have HXR : Hid (X ∉ [rb]) := hid (by have := HTW.out.tab.lt; simp; omega)
  have HXC : Hid (X ∉ [rc]) := hid (by have := HTW.out.ref.lt; simp; omega)
  have HXE : Hid (X ∉ ([] : List Nat)) := hid (by simp)
  have c0 := (Blk.fresh w #[.int .i64 a0, .int .i64 a1, .int .u64 a2, .int .u64 a3, .int .i64 a4] 42).cell (i := 0) rfl
  have c1 := (Blk.fresh w #[.int .i64 a0, .int .i64 a1, .int .u64 a2, .int .u64 a3, .int .i64 a4] 42).cell (i := 1) rfl
  have c2 := (Blk.fresh w #[.int .i64 a0, .int .i64 a1, .int .u64 a2, .int .u64 a3, .int .i64 a4] 42).cell (i := 2) rfl
  have c3 := (Blk.fresh w #[.int .i64 a0, .int .i64 a1, .int .u64 a2, .int .u64 a3, .int .i64 a4] 42).cell (i := 3) rfl
  have c4 := (Blk.fresh w #[.int .i64 a0, .int .i64 a1, .int .u64 a2, .int .u64 a3, .int .i64 a4] 42).cell (i := 4) rfl
  go_enter Tryd.func26, Tryd.ntmps26
  go_wp2_with fail
  rw [← hX]
  clear c0 c1 c2 c3 c4
  generalize (w.alloc (.cells #[.int .i64 a0, .int .i64 a1, .int .u64 a2, .int .u64 a3, .int .i64 a4] 42)) = w0 at *
  refine (id_any c rc l a0 a1 a2 a3 a4 _ (HTW.out.ref.keeps HK.out (by simp) (by simp)) HTW.out.tg H2.out H1.out).mono ?_
  rintro e wi ⟨id, rfl, hid0, hKi⟩
  have HI := hid hid0
  have HT0 := hid ((HTW.out.keeps HK.out).keeps hKi)
  have HG0 := hid ((HG.out.keeps HK.out (by simp)).keeps hKi (by simp))
  replace HB : Hid (Blk wi X #[.int .i64 a0, .int .i64 a1, .int .u64 a2, .int .u64 a3, .int .i64 a4] 42) := hid (HB.out.keeps hKi (by simp))
  replace HK : Hid (Keeps [] w wi) := hid (HK.out.trans hKi)
  clear hX hid0 hKi
  have c0 := HB.out.cell (i := 0) rfl
  go_wp2_with fail
  refine (within_any a0 10 _ (by omega) (by omega)).mono ?_
  rintro e w' ⟨rfl, rfl⟩
  clear c0
  rw [HQ.out]
  go_wp2_with fail
  replace HT0 : Hid (TTwo B wi.drew b rb c rc l) := hid (HT0.out.keeps ((Keeps.refl [] _).drew))
  replace HG0 : Hid (GV wi.drew) := hid HG0.out
  replace HB : Hid (Blk wi.drew X #[.int .i64 a0, .int .i64 a1, .int .u64 a2, .int .u64 a3, .int .i64 a4] 42) := hid HB.out
  replace HK : Hid (Keeps [] w wi.drew) := hid HK.out.drew
  go_region_held3 (fun W => W.cell? ⟨X, 3, none⟩ = some (.int .u64 a3)) (exact HB.out.cell (i := 3) rfl) (first
    | (go_at_call 18; refine (end_any b rb l id a3 _ HT0.out.tab HI.out).mono ?_; rintro e w1 ⟨u, rfl, hE1, hT1, hK1⟩; replace HB : Hid (Blk w1 X #[.int .i64 a0, .int .i64 a1, .int .u64 a2, .int .u64 a3, .int .i64 a4] 42) := hid (HB.out.keeps hK1 HXR.out))
    | (go_at_call 40; refine (rend_any c rc l id a3 _ (HT0.out.refMid hK1) HT0.out.tg).mono ?_; rintro e w2 ⟨u2, rfl, hD2, hR2, hK2⟩; replace HB : Hid (Blk w2 X #[.int .i64 a0, .int .i64 a1, .int .u64 a2, .int .u64 a3, .int .i64 a4] 42) := hid (HB.out.keeps hK2 HXC.out))
    | (go_at_call 10; refine (same_any u u2 _ _ (HT0.out.gv HG0.out HBZ.out (.inl rfl) (.inr rfl) hK1 hK2) (errv_over (HT0.out.refMid hK1) hK2 hE1) hD2).mono ?_; rintro e w3 ⟨rfl, hK3⟩; replace HB : Hid (Blk w3 X #[.int .i64 a0, .int .i64 a1, .int .u64 a2, .int .u64 a3, .int .i64 a4] 42) := hid (HB.out.keeps hK3 HXE.out)))
  go_wp2_with fail
  go_ret
  obtain ⟨g1, g2⟩ := HT0.out.tg.sg HM.out (sg_end l id a3 H3.out)
  obtain ⟨s1, s2⟩ := HT0.out.step HK.out g1 hT1 hK1 hR2 hK2 hK3
  exact ⟨rfl, _, s1, g2, s2⟩

omit hk in
set_option maxRecDepth 100000 in
set_option maxHeartbeats 4000000 in
theorem tdo_end7 (hq : a0 % 10 = 7) : Calls Tryd.prog 26 #[.pointer (some ⟨b, 0, none⟩), .pointer (some ⟨c, 0, none⟩), .agg #[.int .i64 a0, .int .i64 a1, .int .u64 a2, .int .u64 a3, .int .i64 a4]] w (TDoPost B w b rb c rc k) := by
  have HTW := hid hT
  have HG := hid hgv
  have HQ := hid hq
  have HBZ := hid hB0
  have HM := hid hm
  have H3 := hid h3
  have H2 := hid h2
  have H1 := hid h1
  clear hT hgv hq hB0 hm h1 h2 h3
  obtain ⟨X, hX⟩ : ∃ X, X = w.heap.size := ⟨_, rfl⟩
  have HB := hid (Blk.fresh_at hX #[.int .i64 a0, .int .i64 a1, .int .u64 a2, .int .u64 a3, .int .i64 a4] 42)
  have HK := hid ((Keeps.refl [] w).alloc (.cells #[.int .i64 a0, .int .i64 a1, .int .u64 a2, .int .u64 a3, .int .i64 a4] 42))
  have HXR : Hid (X ∉ [rb]) := hid (by have := HTW.out.tab.lt; simp; omega)
  have HXC : Hid (X ∉ [rc]) := hid (by have := HTW.out.ref.lt; simp; omega)
  have HXE : Hid (X ∉ ([] : List Nat)) := hid (by simp)
  have c0 := (Blk.fresh w #[.int .i64 a0, .int .i64 a1, .int .u64 a2, .int .u64 a3, .int .i64 a4] 42).cell (i := 0) rfl
  have c1 := (Blk.fresh w #[.int .i64 a0, .int .i64 a1, .int .u64 a2, .int .u64 a3, .int .i64 a4] 42).cell (i := 1) rfl
  have c2 := (Blk.fresh w #[.int .i64 a0, .int .i64 a1, .int .u64 a2, .int .u64 a3, .int .i64 a4] 42).cell (i := 2) rfl
  have c3 := (Blk.fresh w #[.int .i64 a0, .int .i64 a1, .int .u64 a2, .int .u64 a3, .int .i64 a4] 42).cell (i := 3) rfl
  have c4 := (Blk.fresh w #[.int .i64 a0, .int .i64 a1, .int .u64 a2, .int .u64 a3, .int .i64 a4] 42).cell (i := 4) rfl
  go_enter Tryd.func26, Tryd.ntmps26
  go_wp2_with fail
  rw [← hX]
  clear c0 c1 c2 c3 c4
  generalize (w.alloc (.cells #[.int .i64 a0, .int .i64 a1, .int .u64 a2, .int .u64 a3, .int .i64 a4] 42)) = w0 at *
  refine (id_any c rc l a0 a1 a2 a3 a4 _ (HTW.out.ref.keeps HK.out (by simp) (by simp)) HTW.out.tg H2.out H1.out).mono ?_
  rintro e wi ⟨id, rfl, hid0, hKi⟩
  have HI := hid hid0
  have HT0 := hid ((HTW.out.keeps HK.out).keeps hKi)
  have HG0 := hid ((HG.out.keeps HK.out (by simp)).keeps hKi (by simp))
  replace HB : Hid (Blk wi X #[.int .i64 a0, .int .i64 a1, .int .u64 a2, .int .u64 a3, .int .i64 a4] 42) := hid (HB.out.keeps hKi (by simp))
  replace HK : Hid (Keeps [] w wi) := hid (HK.out.trans hKi)
  clear hX hid0 hKi
  have c0 := HB.out.cell (i := 0) rfl
  go_wp2_with fail
  refine (within_any a0 10 _ (by omega) (by omega)).mono ?_
  rintro e w' ⟨rfl, rfl⟩
  clear c0
  rw [HQ.out]
  go_wp2_with fail
  replace HT0 : Hid (TTwo B wi.drew b rb c rc l) := hid (HT0.out.keeps ((Keeps.refl [] _).drew))
  replace HG0 : Hid (GV wi.drew) := hid HG0.out
  replace HB : Hid (Blk wi.drew X #[.int .i64 a0, .int .i64 a1, .int .u64 a2, .int .u64 a3, .int .i64 a4] 42) := hid HB.out
  replace HK : Hid (Keeps [] w wi.drew) := hid HK.out.drew
  go_region_held3 (fun W => W.cell? ⟨X, 3, none⟩ = some (.int .u64 a3)) (exact HB.out.cell (i := 3) rfl) (first
    | (go_at_call 18; refine (end_any b rb l id a3 _ HT0.out.tab HI.out).mono ?_; rintro e w1 ⟨u, rfl, hE1, hT1, hK1⟩; replace HB : Hid (Blk w1 X #[.int .i64 a0, .int .i64 a1, .int .u64 a2, .int .u64 a3, .int .i64 a4] 42) := hid (HB.out.keeps hK1 HXR.out))
    | (go_at_call 40; refine (rend_any c rc l id a3 _ (HT0.out.refMid hK1) HT0.out.tg).mono ?_; rintro e w2 ⟨u2, rfl, hD2, hR2, hK2⟩; replace HB : Hid (Blk w2 X #[.int .i64 a0, .int .i64 a1, .int .u64 a2, .int .u64 a3, .int .i64 a4] 42) := hid (HB.out.keeps hK2 HXC.out))
    | (go_at_call 10; refine (same_any u u2 _ _ (HT0.out.gv HG0.out HBZ.out (.inl rfl) (.inr rfl) hK1 hK2) (errv_over (HT0.out.refMid hK1) hK2 hE1) hD2).mono ?_; rintro e w3 ⟨rfl, hK3⟩; replace HB : Hid (Blk w3 X #[.int .i64 a0, .int .i64 a1, .int .u64 a2, .int .u64 a3, .int .i64 a4] 42) := hid (HB.out.keeps hK3 HXE.out)))
  go_wp2_with fail
  go_ret
  obtain ⟨g1, g2⟩ := HT0.out.tg.sg HM.out (sg_end l id a3 H3.out)
  obtain ⟨s1, s2⟩ := HT0.out.step HK.out g1 hT1 hK1 hR2 hK2 hK3
  exact ⟨rfl, _, s1, g2, s2⟩

omit hk in
set_option maxRecDepth 100000 in
set_option maxHeartbeats 4000000 in
theorem tdo_leave (hq : a0 % 10 = 8) : Calls Tryd.prog 26 #[.pointer (some ⟨b, 0, none⟩), .pointer (some ⟨c, 0, none⟩), .agg #[.int .i64 a0, .int .i64 a1, .int .u64 a2, .int .u64 a3, .int .i64 a4]] w (TDoPost B w b rb c rc k) := by
  have HTW := hid hT
  have HG := hid hgv
  have HQ := hid hq
  have HBZ := hid hB0
  have HM := hid hm
  have H3 := hid h3
  have H2 := hid h2
  have H1 := hid h1
  clear hT hgv hq hB0 hm h1 h2 h3
  obtain ⟨X, hX⟩ : ∃ X, X = w.heap.size := ⟨_, rfl⟩
  have HB := hid (Blk.fresh_at hX #[.int .i64 a0, .int .i64 a1, .int .u64 a2, .int .u64 a3, .int .i64 a4] 42)
  have HK := hid ((Keeps.refl [] w).alloc (.cells #[.int .i64 a0, .int .i64 a1, .int .u64 a2, .int .u64 a3, .int .i64 a4] 42))
  have HXR : Hid (X ∉ [rb]) := hid (by have := HTW.out.tab.lt; simp; omega)
  have HXC : Hid (X ∉ [rc]) := hid (by have := HTW.out.ref.lt; simp; omega)
  have HXE : Hid (X ∉ ([] : List Nat)) := hid (by simp)
  have c0 := (Blk.fresh w #[.int .i64 a0, .int .i64 a1, .int .u64 a2, .int .u64 a3, .int .i64 a4] 42).cell (i := 0) rfl
  have c1 := (Blk.fresh w #[.int .i64 a0, .int .i64 a1, .int .u64 a2, .int .u64 a3, .int .i64 a4] 42).cell (i := 1) rfl
  have c2 := (Blk.fresh w #[.int .i64 a0, .int .i64 a1, .int .u64 a2, .int .u64 a3, .int .i64 a4] 42).cell (i := 2) rfl
  have c3 := (Blk.fresh w #[.int .i64 a0, .int .i64 a1, .int .u64 a2, .int .u64 a3, .int .i64 a4] 42).cell (i := 3) rfl
  have c4 := (Blk.fresh w #[.int .i64 a0, .int .i64 a1, .int .u64 a2, .int .u64 a3, .int .i64 a4] 42).cell (i := 4) rfl
  go_enter Tryd.func26, Tryd.ntmps26
  go_wp2_with fail
  rw [← hX]
  clear c0 c1 c2 c3 c4
  generalize (w.alloc (.cells #[.int .i64 a0, .int .i64 a1, .int .u64 a2, .int .u64 a3, .int .i64 a4] 42)) = w0 at *
  refine (id_any c rc l a0 a1 a2 a3 a4 _ (HTW.out.ref.keeps HK.out (by simp) (by simp)) HTW.out.tg H2.out H1.out).mono ?_
  rintro e wi ⟨id, rfl, hid0, hKi⟩
  have HI := hid hid0
  have HT0 := hid ((HTW.out.keeps HK.out).keeps hKi)
  have HG0 := hid ((HG.out.keeps HK.out (by simp)).keeps hKi (by simp))
  replace HB : Hid (Blk wi X #[.int .i64 a0, .int .i64 a1, .int .u64 a2, .int .u64 a3, .int .i64 a4] 42) := hid (HB.out.keeps hKi (by simp))
  replace HK : Hid (Keeps [] w wi) := hid (HK.out.trans hKi)
  clear hX hid0 hKi
  have c0 := HB.out.cell (i := 0) rfl
  go_wp2_with fail
  refine (within_any a0 10 _ (by omega) (by omega)).mono ?_
  rintro e w' ⟨rfl, rfl⟩
  clear c0
  rw [HQ.out]
  go_wp2_with fail
  refine (rleave_any c rc l id _ HT0.out.ref HT0.out.tg).mono ?_
  rintro e w1 ⟨hh, ff, u2, rfl, hD1, hR1, hK1⟩
  have HD1 := hid hD1
  have HK1 := hid hK1
  clear hD1 hK1
  go_wp2_with fail
  refine (leave_any b rb l id _ (HT0.out.tabMid HK1.out) HI.out).mono ?_
  rintro e w2 ⟨u, rfl, hE2, hT2, hK2⟩
  have HE2 := hid hE2
  have HK2 := hid hK2
  clear hE2 hK2
  go_wp2_with fail
  refine (same_any u u2 _ _ (HT0.out.gv HG0.out HBZ.out (.inr rfl) (.inl rfl) HK1.out HK2.out) HE2.out (docAt_over (HT0.out.tabMid HK1.out) HK2.out HD1.out)).mono ?_
  rintro e w3 ⟨rfl, hK3⟩
  go_wp2_with fail
  go_ret
  obtain ⟨g1, g2⟩ := HT0.out.tg.sg HM.out (sg_leave l id)
  obtain ⟨s1, s2⟩ := HT0.out.step2 HK.out g1 hR1 HK1.out hT2 HK2.out hK3
  exact ⟨rfl, _, s1, g2, s2⟩

omit hk in
set_option maxRecDepth 100000 in
set_option maxHeartbeats 4000000 in
theorem tdo_reap (hq : a0 % 10 = 9) : Calls Tryd.prog 26 #[.pointer (some ⟨b, 0, none⟩), .pointer (some ⟨c, 0, none⟩), .agg #[.int .i64 a0, .int .i64 a1, .int .u64 a2, .int .u64 a3, .int .i64 a4]] w (TDoPost B w b rb c rc k) := by
  have HTW := hid hT
  have HG := hid hgv
  have HQ := hid hq
  have HBZ := hid hB0
  have HM := hid hm
  have H3 := hid h3
  have H2 := hid h2
  have H1 := hid h1
  clear hT hgv hq hB0 hm h1 h2 h3
  obtain ⟨X, hX⟩ : ∃ X, X = w.heap.size := ⟨_, rfl⟩
  have HB := hid (Blk.fresh_at hX #[.int .i64 a0, .int .i64 a1, .int .u64 a2, .int .u64 a3, .int .i64 a4] 42)
  have HK := hid ((Keeps.refl [] w).alloc (.cells #[.int .i64 a0, .int .i64 a1, .int .u64 a2, .int .u64 a3, .int .i64 a4] 42))
  have HXR : Hid (X ∉ [rb]) := hid (by have := HTW.out.tab.lt; simp; omega)
  have HXC : Hid (X ∉ [rc]) := hid (by have := HTW.out.ref.lt; simp; omega)
  have HXE : Hid (X ∉ ([] : List Nat)) := hid (by simp)
  have c0 := (Blk.fresh w #[.int .i64 a0, .int .i64 a1, .int .u64 a2, .int .u64 a3, .int .i64 a4] 42).cell (i := 0) rfl
  have c1 := (Blk.fresh w #[.int .i64 a0, .int .i64 a1, .int .u64 a2, .int .u64 a3, .int .i64 a4] 42).cell (i := 1) rfl
  have c2 := (Blk.fresh w #[.int .i64 a0, .int .i64 a1, .int .u64 a2, .int .u64 a3, .int .i64 a4] 42).cell (i := 2) rfl
  have c3 := (Blk.fresh w #[.int .i64 a0, .int .i64 a1, .int .u64 a2, .int .u64 a3, .int .i64 a4] 42).cell (i := 3) rfl
  have c4 := (Blk.fresh w #[.int .i64 a0, .int .i64 a1, .int .u64 a2, .int .u64 a3, .int .i64 a4] 42).cell (i := 4) rfl
  go_enter Tryd.func26, Tryd.ntmps26
  go_wp2_with fail
  rw [← hX]
  clear c0 c1 c2 c3 c4
  generalize (w.alloc (.cells #[.int .i64 a0, .int .i64 a1, .int .u64 a2, .int .u64 a3, .int .i64 a4] 42)) = w0 at *
  refine (id_any c rc l a0 a1 a2 a3 a4 _ (HTW.out.ref.keeps HK.out (by simp) (by simp)) HTW.out.tg H2.out H1.out).mono ?_
  rintro e wi ⟨id, rfl, hid0, hKi⟩
  have HI := hid hid0
  have HT0 := hid ((HTW.out.keeps HK.out).keeps hKi)
  have HG0 := hid ((HG.out.keeps HK.out (by simp)).keeps hKi (by simp))
  replace HB : Hid (Blk wi X #[.int .i64 a0, .int .i64 a1, .int .u64 a2, .int .u64 a3, .int .i64 a4] 42) := hid (HB.out.keeps hKi (by simp))
  replace HK : Hid (Keeps [] w wi) := hid (HK.out.trans hKi)
  clear hX hid0 hKi
  have c0 := HB.out.cell (i := 0) rfl
  go_wp2_with fail
  refine (within_any a0 10 _ (by omega) (by omega)).mono ?_
  rintro e w' ⟨rfl, rfl⟩
  clear c0
  rw [HQ.out]
  go_wp2_with fail
  refine (reap_any b rb l id _ HT0.out.tab HI.out).mono ?_
  rintro e w1 ⟨u, rfl, hE1, hT1, hK1⟩
  have HE1 := hid hE1
  have HK1 := hid hK1
  clear hE1 hK1
  go_wp2_with fail
  refine (rreap_any c rc l id _ (HT0.out.refMid HK1.out) HT0.out.tg).mono ?_
  rintro e w2 ⟨u2, rfl, hD2, hR2, hK2⟩
  have HD2 := hid hD2
  have HK2 := hid hK2
  have HT1 := hid hT1
  have HR2 := hid hR2
  have HSG := hid (sg_reap l id)
  clear hD2 hK2 hT1 hR2
  generalize hrf : reapF l id = rf at *
  clear hrf
  obtain ⟨⟨rv, rh, rfr, rk⟩, rl⟩ := rf
  have b1 : (rv == rv) = true := by simp
  have b2 : (rh == rh) = true := by simp
  have b3 : (rfr == rfr) = true := by simp
  go_wp2_with fail
  refine (same_any u u2 _ _ (HT0.out.gv HG0.out HBZ.out (.inl rfl) (.inr rfl) HK1.out HK2.out) (errv_over (HT0.out.refMid HK1.out) HK2.out HE1.out) HD2.out).mono ?_
  rintro e w3 ⟨rfl, hK3⟩
  go_wp2_with fail
  go_ret
  obtain ⟨g1, g2⟩ := HT0.out.tg.sg HM.out HSG.out
  obtain ⟨s1, s2⟩ := HT0.out.step HK.out g1 HT1.out HK1.out HR2.out HK2.out hK3
  exact ⟨rfl, _, s1, g2, s2⟩

set_option maxRecDepth 100000 in
set_option maxHeartbeats 4000000 in
theorem tdo_born (hq : a0 % 10 ≠ 3 ∧ a0 % 10 ≠ 4 ∧ a0 % 10 ≠ 5 ∧ a0 % 10 ≠ 6 ∧ a0 % 10 ≠ 7 ∧ a0 % 10 ≠ 8 ∧ a0 % 10 ≠ 9) : Calls Tryd.prog 26 #[.pointer (some ⟨b, 0, none⟩), .pointer (some ⟨c, 0, none⟩), .agg #[.int .i64 a0, .int .i64 a1, .int .u64 a2, .int .u64 a3, .int .i64 a4]] w (TDoPost B w b rb c rc k) := by
  have HTW := hid hT
  have HG := hid hgv
  have HQ := hid hq
  have HBZ := hid hB0
  have HM := hid hm
  have H3 := hid h3
  have H2 := hid h2
  have H1 := hid h1
  clear hT hgv hq hB0 hm h1 h2 h3
  obtain ⟨X, hX⟩ : ∃ X, X = w.heap.size := ⟨_, rfl⟩
  have HB := hid (Blk.fresh_at hX #[.int .i64 a0, .int .i64 a1, .int .u64 a2, .int .u64 a3, .int .i64 a4] 42)
  have HK := hid ((Keeps.refl [] w).alloc (.cells #[.int .i64 a0, .int .i64 a1, .int .u64 a2, .int .u64 a3, .int .i64 a4] 42))
  have HXR : Hid (X ∉ [rb]) := hid (by have := HTW.out.tab.lt; simp; omega)
  have HXC : Hid (X ∉ [rc]) := hid (by have := HTW.out.ref.lt; simp; omega)
  have HXE : Hid (X ∉ ([] : List Nat)) := hid (by simp)
  have c0 := (Blk.fresh w #[.int .i64 a0, .int .i64 a1, .int .u64 a2, .int .u64 a3, .int .i64 a4] 42).cell (i := 0) rfl
  have c1 := (Blk.fresh w #[.int .i64 a0, .int .i64 a1, .int .u64 a2, .int .u64 a3, .int .i64 a4] 42).cell (i := 1) rfl
  have c2 := (Blk.fresh w #[.int .i64 a0, .int .i64 a1, .int .u64 a2, .int .u64 a3, .int .i64 a4] 42).cell (i := 2) rfl
  have c3 := (Blk.fresh w #[.int .i64 a0, .int .i64 a1, .int .u64 a2, .int .u64 a3, .int .i64 a4] 42).cell (i := 3) rfl
  have c4 := (Blk.fresh w #[.int .i64 a0, .int .i64 a1, .int .u64 a2, .int .u64 a3, .int .i64 a4] 42).cell (i := 4) rfl
  go_enter Tryd.func26, Tryd.ntmps26
  go_wp2_with fail
  rw [← hX]
  clear c0 c1 c2 c3 c4
  generalize (w.alloc (.cells #[.int .i64 a0, .int .i64 a1, .int .u64 a2, .int .u64 a3, .int .i64 a4] 42)) = w0 at *
  refine (id_any c rc l a0 a1 a2 a3 a4 _ (HTW.out.ref.keeps HK.out (by simp) (by simp)) HTW.out.tg H2.out H1.out).mono ?_
  rintro e wi ⟨id, rfl, hid0, hKi⟩
  have HI := hid hid0
  have HT0 := hid ((HTW.out.keeps HK.out).keeps hKi)
  have HG0 := hid ((HG.out.keeps HK.out (by simp)).keeps hKi (by simp))
  replace HB : Hid (Blk wi X #[.int .i64 a0, .int .i64 a1, .int .u64 a2, .int .u64 a3, .int .i64 a4] 42) := hid (HB.out.keeps hKi (by simp))
  replace HK : Hid (Keeps [] w wi) := hid (HK.out.trans hKi)
  clear hX hid0 hKi
  have c0 := HB.out.cell (i := 0) rfl
  go_wp2_with fail
  refine (within_any a0 10 _ (by omega) (by omega)).mono ?_
  rintro e w' ⟨rfl, rfl⟩
  clear c0
  have hb3 : (a0 % 10 == 3) = false := by simpa using HQ.out.1
  have hb4 : (a0 % 10 == 4) = false := by simpa using HQ.out.2.1
  have hb5 : (a0 % 10 == 5) = false := by simpa using HQ.out.2.2.1
  have hb6 : (a0 % 10 == 6) = false := by simpa using HQ.out.2.2.2.1
  have hb7 : (a0 % 10 == 7) = false := by simpa using HQ.out.2.2.2.2.1
  have hb8 : (a0 % 10 == 8) = false := by simpa using HQ.out.2.2.2.2.2.1
  have hb9 : (a0 % 10 == 9) = false := by simpa using HQ.out.2.2.2.2.2.2
  clear HQ
  generalize a0 % 10 = dd at *
  have c3 := HB.out.cell (i := 3) rfl
  go_wp2_with fail
  rcases first_free l with hall | ⟨i, r, hr, hf, hbef⟩
  · refine (born_full b rb l a3 _ HT0.out.tab hall).mono ?_
    rintro e w1 ⟨rfl, hw1⟩
    have HK1 : Hid (Keeps [] wi w1) := hid (hw1 ▸ (Keeps.refl [] wi).alloc _)
    have HE1 : Hid (ErrAt w1 (.iface 72 (.pointer (some ⟨wi.heap.size, 0, none⟩))) [(tabS, 0)] 3) := hid (hw1 ▸ ErrAt.fresh wi tabS 0 3)
    clear hw1 c3
    have c3 := (HB.out.keeps HK1.out (by simp)).cell (i := 3) rfl
    go_wp2_with fail
    refine (rborn_full c rc l a3 _ (HT0.out.keeps HK1.out).ref HT0.out.tg hall).mono ?_
    rintro e w2 ⟨u2, rfl, hF2, hK2⟩
    have HF2 := hid hF2
    have HK2 := hid hK2
    clear hF2 hK2
    go_wp2_with fail
    refine (same_any _ u2 (some ([(tabS, 0)], 3)) _ ((HG0.out.keeps HK1.out (by simp)).keeps HK2.out (by simp)) (ErrAt.keeps HK2.out HE1.out) ⟨HF2.out, by simp, by omega, by omega⟩).mono ?_
    rintro e w3 ⟨rfl, hK3⟩
    go_wp2_with fail
    go_ret
    have hKK := (HK1.out.trans HK2.out).trans hK3
    exact ⟨rfl, l, HT0.out.keeps hKK, fun i r hr => by have := HM.out i r hr; omega, (HK.out.trans hKK).mono (by simp)⟩
  · refine (born_ok b rb l i r a3 _ HT0.out.tab hr hf hbef).mono ?_
    rintro e w1 ⟨rfl, hT1, hK1⟩
    have htm := HM.out i r hr
    have hB := HT0.out.tg.rows i r hr
    have HTB := hid (HT0.out.tg.born HM.out hk HT0.out.tab.2.2.2 hr H3.out)
    have HK1 := hid hK1
    have HBEF := hid hbef
    have HR := hid hr
    have HF := hid hf
    have HR0 := hid hB.2.2.1
    have HR1 : Hid (r.times ≤ 100) := hid (by omega)
    clear c3 hK1 hB htm hbef hr hf
    have c3 := (HB.out.keeps HK1.out HXR.out).cell (i := 3) rfl
    go_wp2_with fail
    refine (rborn_ok c rc l i r a3 _ (HT0.out.refMid HK1.out) HT0.out.tg HR.out HF.out HBEF.out HR0.out HR1.out).mono ?_
    rintro e w2 ⟨rfl, hR2, hK2⟩
    have HK2 := hid hK2
    clear hK2
    generalize hid1 : (bornRow r i a3).id = nid at *
    have b1 : (nid == nid) = true := by simp
    clear hid1
    go_wp2_with fail
    refine (same_nil _).mono ?_
    rintro e w3 ⟨rfl, rfl⟩
    go_wp2_with fail
    go_ret
    obtain ⟨s1, s2⟩ := HT0.out.step HK.out HTB.out.1 hT1 HK1.out hR2 HK2.out (Keeps.refl _ _)
    exact ⟨rfl, _, s1, HTB.out.2, s2⟩

theorem tdo_any : Calls Tryd.prog 26 #[.pointer (some ⟨b, 0, none⟩), .pointer (some ⟨c, 0, none⟩), .agg #[.int .i64 a0, .int .i64 a1, .int .u64 a2, .int .u64 a3, .int .i64 a4]] w (TDoPost B w b rb c rc k) := by
  by_cases q3 : a0 % 10 = 3
  · exact tdo_be B b rb c rc k l a0 a1 a2 a3 a4 w hgv hB0 hT hm h1 h2 h3 q3
  by_cases q4 : a0 % 10 = 4
  · exact tdo_join B b rb c rc k l a0 a1 a2 a3 a4 w hgv hB0 hT hm h1 h2 h3 q4
  by_cases q5 : a0 % 10 = 5
  · exact tdo_loose B b rb c rc k l a0 a1 a2 a3 a4 w hgv hB0 hT hm h1 h2 h3 q5
  by_cases q6 : a0 % 10 = 6
  · exact tdo_end6 B b rb c rc k l a0 a1 a2 a3 a4 w hgv hB0 hT hm h1 h2 h3 q6
  by_cases q7 : a0 % 10 = 7
  · exact tdo_end7 B b rb c rc k l a0 a1 a2 a3 a4 w hgv hB0 hT hm h1 h2 h3 q7
  by_cases q8 : a0 % 10 = 8
  · exact tdo_leave B b rb c rc k l a0 a1 a2 a3 a4 w hgv hB0 hT hm h1 h2 h3 q8
  by_cases q9 : a0 % 10 = 9
  · exact tdo_reap B b rb c rc k l a0 a1 a2 a3 a4 w hgv hB0 hT hm h1 h2 h3 q9
  exact tdo_born B b rb c rc k l a0 a1 a2 a3 a4 w hgv hB0 hT hm hk h1 h2 h3 ⟨q3, q4, q5, q6, q7, q8, q9⟩
end
end Go.Proofs.YtghgfopcnaoaiaaDoor
