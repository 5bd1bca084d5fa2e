/-
  TablePlays: the walk of the statement's own function.
-/
import Derived.Test.YtghgfopcnaoaiaaDoorRt5
import Derived.Test.YtghgfopcnaoaiaaDoorOpen
namespace Go.Proofs.YtghgfopcnaoaiaaDoor
open Go.RowKit

def opKd11 : Nat → IntKind := fun j => [IntKind.i64, IntKind.i64, IntKind.u64, IntKind.u64, IntKind.i64].getD j .i64

theorem lookV_form (l : List TRow) (id : Int) : ∃ (x0 x1 x2 x3 x4 : Int) (x5 x6 ok : Bool), lookV l id = .tuple #[.agg #[.int .u64 x0, .int .i64 x1, .int .u64 x2, .int .u64 x3, .int .u64 x4, .bool x5, .bool x6], .bool ok] := by
  unfold lookV
  split
  · exact ⟨_, _, _, _, _, _, _, _, rfl⟩
  · exact ⟨_, _, _, _, _, _, _, _, rfl⟩

set_option maxRecDepth 100000 in
set_option maxHeartbeats 4000000 in
theorem tablePlays_walk (m : Int) (a1 : Option Addr) (len cap1 : Nat) (F : Nat → Nat → Int) (w : World) (_w0 : (Lit.int .i64 m).wf = true) (w1 : OpsIn opKd11 5 w a1 len cap1 F) (hg : w.cell? ⟨0, 0, none⟩ = some (.iface 113 (.agg #[.pointer (some ⟨1, 24, none⟩)]))) :
    Calls Tryd.prog 8 #[.int .i64 m, .slice a1 len cap1] w fun e w' => e = .returned (.bool true) ∧ Below w.heap.size w w' := by
  have HG : Hid (GV w) := hid hg
  have hlen := w1.1
  unfold maxLen at hlen
  have HW := hid w1
  have HZ : Hid (0 < w.heap.size) := hid HG.out.lt
  clear hg w1
  obtain ⟨q, hq, hq5⟩ : ∃ q : Nat, m % 6 = (q : Int) ∧ q < 6 := ⟨(m % 6).toNat, by omega, by omega⟩
  go_enter Tryd.func8, Tryd.ntmps8
  go_wp2_with fail
  refine (within_any m 6 _ (by omega) (by omega)).mono ?_
  rintro e w' ⟨rfl, rfl⟩
  rw [hq]
  go_wp2_with fail
  obtain ⟨n, hn⟩ : ∃ n : Nat, n = 1 + q := ⟨_, rfl⟩
  have hn2 : (1 + (q : Int)) = (n : Int) := by omega
  rw [hn2]
  have hn1 : 1 ≤ n := by omega
  have hn64 : n ≤ 64 := by omega
  clear hn2 hn hq hq5
  refine (tnew_ok n _ (by omega) (by omega)).mono ?_
  rintro e w1 ⟨b, rb, rfl, hT, hK, hb, hrb⟩
  go_wp2_with fail
  refine (rtnew_ok n _ (by omega) (by omega)).mono ?_
  rintro e w2 ⟨c, rc, rfl, hR, hK2, hc, hrc⟩
  have HT : Hid (TTwo w.heap.size w2 b rb c rc (tNew n)) := by
    have l1 := hT.lt
    have s1 := hK.size
    exact hid ⟨hT.keeps hK2 (by simp) (by simp), hR, (tg_new n).1, by omega, by omega⟩
  have HK := hid (hK.trans hK2)
  clear hT hK hb hrb hR hK2 hc hrc
  go_wp2_with fail
  go_loopw [10] (fun i wr => ∃ (k : Nat) (l : List TRow), k ≤ len ∧ k ≤ 100 ∧ i = .int .i64 k ∧ TTwo w.heap.size wr b rb c rc l ∧ Tm k l ∧ Keeps [] w wr) (fun i _ => (100 - (intOf i).toNat))
  case atStart => exact ⟨0, _, by omega, by omega, rfl, HT.out, (tg_new n).2, HK.out⟩
  case round =>
    obtain ⟨k, l, hk, hk2, rfl, hT, hm, hKR⟩ := hrel
    clear HT HK
    have HT := hid hT
    have HM := hid hm
    have HKR := hid hKR
    clear hT hm hKR
    by_cases hlt : k < len ∧ k < 100
    · obtain ⟨hl1, hl2⟩ := hlt
      obtain ⟨xb, xo, rfl, hxb, hc⟩ := HW.out.elems (by omega) (by omega)
      have f1 := (bounds_i64 (HW.out.wf hl1 (show 1 < 5 by omega))).2
      have f2 := (bounds_u64 (HW.out.wf hl1 (show 2 < 5 by omega))).1
      have f3 := (bounds_u64 (HW.out.wf hl1 (show 3 < 5 by omega))).1
      have HC : Hid (∀ wx, Keeps [] w wx → wx.cell? ⟨xb, xo + k * 5, none⟩ = some (.int .i64 (F k 0)) ∧ wx.cell? ⟨xb, xo + k * 5 + 1, none⟩ = some (.int .i64 (F k 1)) ∧ wx.cell? ⟨xb, xo + k * 5 + 2, none⟩ = some (.int .u64 (F k 2)) ∧ wx.cell? ⟨xb, xo + k * 5 + 3, none⟩ = some (.int .u64 (F k 3)) ∧ wx.cell? ⟨xb, xo + k * 5 + 4, none⟩ = some (.int .i64 (F k 4))) := hid (fun wx hKx => by
        have hc : ∀ j, j < 5 → wx.cell? ⟨xb, xo + (k * 5 + j), none⟩ = some (.int (opKd11 j) (F k j)) := fun j hj => (hKx.cell (p := ⟨xb, xo + (k * 5 + j), none⟩) hxb (by simp)).trans (hc k hl1 j hj)
        exact ⟨hc 0 (by omega), hc 1 (by omega), hc 2 (by omega), hc 3 (by omega), hc 4 (by omega)⟩)
      have HF := hid (And.intro f1 (And.intro f2 f3))
      clear hc f1 f2 f3
      obtain ⟨e0, e1, e2, e3, e4⟩ := HC.out _ HKR.out
      go_wp2_with fail
      refine (id_any c rc l (F k 0) (F k 1) (F k 2) (F k 3) (F k 4) _ HT.out.ref HT.out.tg HF.out.2.1 HF.out.1).mono ?_
      rintro e w3 ⟨id, rfl, hid0, hK3⟩
      have HI := hid hid0
      have HT3 := hid (HT.out.keeps hK3)
      have HK3 := hid (HKR.out.trans hK3)
      clear e0 e1 e2 e3 e4 hid0 hK3
      obtain ⟨e0, e1, e2, e3, e4⟩ := HC.out _ HK3.out
      go_wp2_with fail
      refine (tdo_any w.heap.size b rb c rc k l (F k 0) (F k 1) (F k 2) (F k 3) (F k 4) _ (HG.out.keeps HK3.out (by simp)) HZ.out HT3.out HM.out (by omega) HF.out.1 HF.out.2.1 HF.out.2.2).mono ?_
      rintro e w4 ⟨rfl, l', hT4, hm4, hK4⟩
      have HT4 := hid hT4
      have HM4 := hid hm4
      have HK4 : Hid (Keeps [] w w4) := hid (HK3.out.drop hK4 (by have h := hT4.new; intro z hz; simp at hz; omega))
      clear e0 e1 e2 e3 e4 hT4 hm4 hK4
      go_wp2_with fail
      refine (all_any b rb l' _ HT4.out.tab).mono ?_
      rintro e w5 ⟨v5, rfl, hO5, hK5⟩
      obtain ⟨a5, cap5, rfl⟩ := len_form hO5
      have HA5 := hid (threads_of hO5 rfl)
      have HT5 := hid (HT4.out.keeps hK5)
      have HK5 := hid (HK4.out.trans hK5)
      clear hO5 hK5
      go_wp2_with fail
      refine (rall_any c rc l' _ HT5.out.ref HT5.out.tg).mono ?_
      rintro e w6 ⟨v6, rfl, hO6, hK6⟩
      obtain ⟨a6, cap6, rfl⟩ := len_form hO6
      have HA6 := hid (threads_of hO6 rfl)
      have HA56 := hid (HA5.out.keeps hK6)
      have HT6 := hid (HT5.out.keeps hK6)
      have HK6 := hid (HK5.out.trans hK6)
      have htl : (threads l').length ≤ 64 := Nat.le_trans (List.length_filter_le _ _) HT6.out.tab.2.2.2
      have HTL := hid htl
      clear hO6 hK6 htl
      go_wp2_with fail
      refine (threads_same a5 a6 cap5 cap6 (threads l') _ HA56.out HA6.out HTL.out).mono ?_
      rintro e w7 ⟨rfl, hK7⟩
      have HT7 := hid (HT6.out.keeps hK7)
      have HK7 := hid (HK6.out.trans hK7)
      clear hK7
      go_wp2_with fail
      refine (status_any b rb l' id _ HT7.out.tab HI.out).mono ?_
      rintro e w' ⟨rfl, rfl⟩
      have HST := hid (rstatus_any c rc l' id w7 HT7.out.ref HT7.out.tg)
      generalize statusF l' id = st at *
      have bst : (st != st) = false := by simp
      go_wp2_with fail
      refine HST.out.mono ?_
      rintro e w' ⟨rfl, rfl⟩
      obtain ⟨x0, x1, x2, x3, x4, x5, x6, ok, hV⟩ := lookV_form l' id
      have HV := hid hV
      have bok : (ok != ok) = false := by simp
      clear hV
      go_wp2_with fail
      refine (look_any b rb l' id _ HT7.out.tab HI.out).mono ?_
      rintro e w8 ⟨rfl, hK8⟩
      rw [HV.out]
      have HT8 := hid (HT7.out.keeps hK8)
      have HK8 := hid (HK7.out.trans hK8)
      clear hK8
      go_wp2_with fail
      obtain ⟨X, hX⟩ : ∃ X, X = w8.heap.size := ⟨_, rfl⟩
      have HB : Hid (Blk (w8.alloc (.cells #[.int .u64 x0, .int .i64 x1, .int .u64 x2, .int .u64 x3, .int .u64 x4, .bool x5, .bool x6] 48)) X #[.int .u64 x0, .int .i64 x1, .int .u64 x2, .int .u64 x3, .int .u64 x4, .bool x5, .bool x6] 48) := hid (Blk.fresh_at hX _ _)
      have HKA : Hid (Keeps [] w8 (w8.alloc (.cells #[.int .u64 x0, .int .i64 x1, .int .u64 x2, .int .u64 x3, .int .u64 x4, .bool x5, .bool x6] 48))) := hid ((Keeps.refl _ _).alloc _)
      rw [← hX]
      refine (rlook_any c rc l' id _ (HT8.out.keeps HKA.out).ref HT8.out.tg).mono ?_
      rintro e w9 ⟨rfl, hK9⟩
      rw [HV.out]
      have HT9 := hid ((HT8.out.keeps HKA.out).keeps hK9)
      have HK9 := hid ((HK8.out.trans HKA.out).trans hK9)
      have HB9 := HB.out.keeps hK9 (by simp)
      have g0 := HB9.cell (i := 0) rfl
      have g1 := HB9.cell (i := 1) rfl
      have g2 := HB9.cell (i := 2) rfl
      have g3 := HB9.cell (i := 3) rfl
      have g4 := HB9.cell (i := 4) rfl
      have g5 := HB9.cell (i := 5) rfl
      have g6 := HB9.cell (i := 6) rfl
      have hXl := HB9.lt
      clear hK9 HB9 hX
      go_wp2_with fail
      go_roundw
      case rel => exact ⟨k + 1, l', by omega, by omega, by go_num, HT9.out.keeps ((Keeps.refl [] _).alloc _), HM4.out, HK9.out.alloc _⟩
      case measure => simp [intOf]; omega
    · have hcase : k = len ∨ (k < len ∧ k = 100) := by omega
      have HGR : Hid (GV wr) := hid (HG.out.keeps HKR.out (by simp))
      rcases hcase with hcl | ⟨hl1, hl2⟩
      all_goals
        go_wp2_with fail
        refine (awake_any _ HGR.out).mono ?_
        rintro e w7 ⟨rfl, hK7⟩
        go_wp2_with fail
        go_ret
        exact ⟨rfl, (HKR.out.trans hK7).below (Nat.le_refl _) (by simp)⟩
end Go.Proofs.YtghgfopcnaoaiaaDoor
