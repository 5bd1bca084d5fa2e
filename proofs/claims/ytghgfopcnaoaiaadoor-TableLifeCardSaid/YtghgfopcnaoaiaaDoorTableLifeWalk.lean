/-
  TableLife: the walk of the statement's own function. (Printed by gen_life.py.)
-/
import Derived.Test.YtghgfopcnaoaiaaDoorTableRows
import Derived.Test.YtghgfopcnaoaiaaDoorRowIn
namespace Go.Proofs.YtghgfopcnaoaiaaDoor
open Go.RowKit
set_option maxRecDepth 100000 in
set_option maxHeartbeats 2000000 in
theorem tableLife_loose (v c : Int) (f : Bool) (w : World) (hg : w.cell? ⟨0, 0, none⟩ = some (.iface 113 (.agg #[.pointer (some ⟨1, 24, none⟩)]))) : Calls Tryd.prog 6 #[.int .u64 v, .int .u64 c, .bool f, .bool true] w fun e w' => e = .returned (.bool true) ∧ Below w.heap.size w w' := by
  have HG : Hid (GV w) := hid hg
  clear hg
  go_enter Tryd.func6, Tryd.ntmps6
  go_wp2_with fail
  refine (tnew_ok 3 _ (by omega) (by omega)).mono ?_
  rintro e w1 ⟨b, rb, rfl, hT1, hK1, hb, hrb⟩
  have hx : ∀ x, x ∈ [rb] → x ∈ ([] : List Nat) ∨ w.heap.size ≤ x := by intro x hx; simp at hx; omega
  have HX := hid hx
  clear hx
  go_wp2_with fail
  refine (lf_born b rb 2 (c) _ hT1).mono ?_
  rintro e w2 ⟨rfl, hT2, hK2⟩
  have hK2 := hK1.drop hK2 HX.out
  go_wp2_with fail
  refine (lf_status b rb _ _ _ _ _ _ _ _ _ 1 (by kernel_rfl) hT2).mono ?_
  rintro e w3 ⟨rfl, rfl⟩
  go_wp2_with fail
  refine (l_loose b rb _ _ (lf 2 1 c 0 0 false true false) 0  (by kernel_rfl) hT2).mono ?_
  intro e w4 hpost
  obtain ⟨rfl, hT4, hK4⟩ := hpost.ok
  clear hpost
  have hK4 := hK2.drop hK4 HX.out
  go_wp2_with fail
  refine (lf_status b rb _ _ _ _ _ _ _ _ _ 2 (by kernel_rfl) hT4).mono ?_
  rintro e w5 ⟨rfl, rfl⟩
  go_wp2_with fail
  refine (l_end b rb _ _ (lf 2 4 c v 0 false true true) 0 v (by kernel_rfl) hT4).mono ?_
  intro e w6 hpost
  obtain ⟨rfl, hT6, hK6⟩ := hpost.ok
  clear hpost
  have hK6 := hK4.drop hK6 HX.out
  go_wp2_with fail
  refine (lf_status b rb _ _ _ _ _ _ _ _ _ 2 (by kernel_rfl) hT6).mono ?_
  rintro e w7 ⟨rfl, rfl⟩
  go_wp2_with fail
  refine (l_leave b rb _ _ (lg 2) 0  (by kernel_rfl) hT6).mono ?_
  intro e w8 hpost
  obtain ⟨rfl, hT8, hK8⟩ := hpost.ok
  clear hpost
  have hK8 := hK6.drop hK8 HX.out
  go_wp2_with fail
  refine (lg_status b rb _ _ hT8).mono ?_
  rintro e w9 ⟨rfl, rfl⟩
  go_wp2_with fail
  refine (lg_look b rb _ _ hT8).mono ?_
  rintro e w10 ⟨rfl, hK10⟩
  have hT10 := hT8.keeps hK10 (by simp) (by simp)
  have hK10 := hK8.trans hK10
  have hKA := hK10.alloc (.cells #[.int .u64 0, .int .i64 0, .int .u64 0, .int .u64 0, .int .u64 0, .bool false, .bool false] 48)
  have hTA := hT10.keeps ((Keeps.refl [] _).alloc (.cells #[.int .u64 0, .int .i64 0, .int .u64 0, .int .u64 0, .int .u64 0, .bool false, .bool false] 48)) (by simp) (by simp)
  go_wp2_with fail
  refine (lg_all b rb _ _ hTA).mono ?_
  rintro e w11 ⟨⟨a11, cap11, rfl⟩, hK11⟩
  have hT11 := hTA.keeps hK11 (by simp) (by simp)
  have hK11 := hKA.trans hK11
  go_wp2_with fail
  refine (awake_any _ (HG.out.keeps hK11 (by simp))).mono ?_
  rintro e w12 ⟨rfl, hK12⟩
  have hT12 := hT11.keeps hK12 (by simp) (by simp)
  have hK12 := hK11.trans hK12
  go_wp2_with fail
  go_ret
  exact ⟨rfl, hK12.below (Nat.le_refl _) (by simp)⟩

set_option maxRecDepth 100000 in
set_option maxHeartbeats 2000000 in
theorem tableLife_false (v c : Int) (w : World) (hg : w.cell? ⟨0, 0, none⟩ = some (.iface 113 (.agg #[.pointer (some ⟨1, 24, none⟩)]))) : Calls Tryd.prog 6 #[.int .u64 v, .int .u64 c, .bool false, .bool false] w fun e w' => e = .returned (.bool true) ∧ Below w.heap.size w w' := by
  have hvv : (v != v) = false := by simp
  have hcc : (c != c) = false := by simp
  have HG : Hid (GV w) := hid hg
  clear hg
  go_enter Tryd.func6, Tryd.ntmps6
  go_wp2_with fail
  refine (tnew_ok 3 _ (by omega) (by omega)).mono ?_
  rintro e w1 ⟨b, rb, rfl, hT1, hK1, hb, hrb⟩
  have hx : ∀ x, x ∈ [rb] → x ∈ ([] : List Nat) ∨ w.heap.size ≤ x := by intro x hx; simp at hx; omega
  have HX := hid hx
  clear hx
  go_wp2_with fail
  refine (lf_born b rb 2 (c) _ hT1).mono ?_
  rintro e w2 ⟨rfl, hT2, hK2⟩
  have hK2 := hK1.drop hK2 HX.out
  go_wp2_with fail
  refine (lf_status b rb _ _ _ _ _ _ _ _ _ 1 (by kernel_rfl) hT2).mono ?_
  rintro e w3 ⟨rfl, rfl⟩
  go_wp2_with fail
  refine (l_leave b rb _ _ (lf 2 1 (c) 0 0 false false false) 8  (by kernel_rfl) hT2).mono ?_
  intro e w4 hpost
  obtain ⟨T4, y4, rfl, hEe4, hT4, hK4⟩ := hpost.bad (by decide)
  clear hpost
  have hK4 := hK2.drop hK4 HX.out
  go_wp2_with fail
  refine (no_any tabS 0 8 _).mono ?_
  rintro e w5 ⟨u5, rfl, hFu5, hK5⟩
  have hT5 := hT4.keeps hK5 (by simp) (by simp)
  have hEe5 := hEe4.keeps hK5
  have hK5 := hK4.trans hK5
  go_wp2_with fail
  refine (same_one _ _ tabS 0 8 _ (HG.out.keeps hK5 (by simp)) hEe5 hFu5 (by omega) (by omega)).mono ?_
  rintro e w6 ⟨rfl, hK6⟩
  have hT6 := hT5.keeps hK6 (by simp) (by simp)
  have hK6 := hK5.trans hK6
  go_wp2_with fail
  refine (l_end b rb _ _ (lf 2 4 c v 0 false false true) 0 v (by kernel_rfl) hT6).mono ?_
  intro e w7 hpost
  obtain ⟨rfl, hT7, hK7⟩ := hpost.ok
  clear hpost
  have hK7 := hK6.drop hK7 HX.out
  go_wp2_with fail
  refine (lf_status b rb _ _ _ _ _ _ _ _ _ 3 (by kernel_rfl) hT7).mono ?_
  rintro e w8 ⟨rfl, rfl⟩
  go_wp2_with fail
  refine (l_leave b rb _ _ (lf 2 4 c v 0 false false false) 0  (by kernel_rfl) hT7).mono ?_
  intro e w9 hpost
  obtain ⟨rfl, hT9, hK9⟩ := hpost.ok
  clear hpost
  have hK9 := hK7.drop hK9 HX.out
  go_wp2_with fail
  refine (l_reap b rb _ _ (lg 2) ⟨v, c, true, 0⟩ (by kernel_rfl) hT9).mono ?_
  intro e w10 hpost
  obtain ⟨rfl, hT10, hK10⟩ := hpost.ok
  clear hpost
  have hK10 := hK9.drop hK10 HX.out
  go_wp2_with fail
  refine (lg_status b rb _ _ hT10).mono ?_
  rintro e w11 ⟨rfl, rfl⟩
  go_wp2_with fail
  refine (l_reap b rb _ _ (lg 2) ⟨0, 0, false, 7⟩ (by kernel_rfl) hT10).mono ?_
  intro e w12 hpost
  obtain ⟨T12, y12, rfl, hEe12, hT12, hK12⟩ := hpost.bad (by decide)
  clear hpost
  have hK12 := hK10.drop hK12 HX.out
  go_wp2_with fail
  refine (no_any tabS 0 7 _).mono ?_
  rintro e w13 ⟨u13, rfl, hFu13, hK13⟩
  have hT13 := hT12.keeps hK13 (by simp) (by simp)
  have hEe13 := hEe12.keeps hK13
  have hK13 := hK12.trans hK13
  go_wp2_with fail
  refine (same_one _ _ tabS 0 7 _ (HG.out.keeps hK13 (by simp)) hEe13 hFu13 (by omega) (by omega)).mono ?_
  rintro e w14 ⟨rfl, hK14⟩
  have hT14 := hT13.keeps hK14 (by simp) (by simp)
  have hK14 := hK13.trans hK14
  go_wp2_with fail
  refine (lg_all b rb _ _ hT14).mono ?_
  rintro e w15 ⟨⟨a15, cap15, rfl⟩, hK15⟩
  have hT15 := hT14.keeps hK15 (by simp) (by simp)
  have hK15 := hK14.trans hK15
  go_wp2_with fail
  refine (awake_any _ (HG.out.keeps hK15 (by simp))).mono ?_
  rintro e w16 ⟨rfl, hK16⟩
  have hT16 := hT15.keeps hK16 (by simp) (by simp)
  have hK16 := hK15.trans hK16
  go_wp2_with fail
  go_ret
  exact ⟨rfl, hK16.below (Nat.le_refl _) (by simp)⟩

set_option maxRecDepth 100000 in
set_option maxHeartbeats 2000000 in
theorem tableLife_true (v c : Int) (w : World) (hg : w.cell? ⟨0, 0, none⟩ = some (.iface 113 (.agg #[.pointer (some ⟨1, 24, none⟩)]))) : Calls Tryd.prog 6 #[.int .u64 v, .int .u64 c, .bool true, .bool false] w fun e w' => e = .returned (.bool true) ∧ Below w.heap.size w w' := by
  have hvv : (v != v) = false := by simp
  have hcc : (c != c) = false := by simp
  have HG : Hid (GV w) := hid hg
  clear hg
  go_enter Tryd.func6, Tryd.ntmps6
  go_wp2_with fail
  refine (tnew_ok 3 _ (by omega) (by omega)).mono ?_
  rintro e w1 ⟨b, rb, rfl, hT1, hK1, hb, hrb⟩
  have hx : ∀ x, x ∈ [rb] → x ∈ ([] : List Nat) ∨ w.heap.size ≤ x := by intro x hx; simp at hx; omega
  have HX := hid hx
  clear hx
  go_wp2_with fail
  refine (lf_born b rb 2 (c) _ hT1).mono ?_
  rintro e w2 ⟨rfl, hT2, hK2⟩
  have hK2 := hK1.drop hK2 HX.out
  go_wp2_with fail
  refine (lf_status b rb _ _ _ _ _ _ _ _ _ 1 (by kernel_rfl) hT2).mono ?_
  rintro e w3 ⟨rfl, rfl⟩
  go_wp2_with fail
  refine (l_leave b rb _ _ (lf 2 1 (c) 0 0 false false false) 8  (by kernel_rfl) hT2).mono ?_
  intro e w4 hpost
  obtain ⟨T4, y4, rfl, hEe4, hT4, hK4⟩ := hpost.bad (by decide)
  clear hpost
  have hK4 := hK2.drop hK4 HX.out
  go_wp2_with fail
  refine (no_any tabS 0 8 _).mono ?_
  rintro e w5 ⟨u5, rfl, hFu5, hK5⟩
  have hT5 := hT4.keeps hK5 (by simp) (by simp)
  have hEe5 := hEe4.keeps hK5
  have hK5 := hK4.trans hK5
  go_wp2_with fail
  refine (same_one _ _ tabS 0 8 _ (HG.out.keeps hK5 (by simp)) hEe5 hFu5 (by omega) (by omega)).mono ?_
  rintro e w6 ⟨rfl, hK6⟩
  have hT6 := hT5.keeps hK6 (by simp) (by simp)
  have hK6 := hK5.trans hK6
  go_wp2_with fail
  refine (l_end b rb _ _ (lf 2 4 c v 0 false false true) 0 v (by kernel_rfl) hT6).mono ?_
  intro e w7 hpost
  obtain ⟨rfl, hT7, hK7⟩ := hpost.ok
  clear hpost
  have hK7 := hK6.drop hK7 HX.out
  go_wp2_with fail
  refine (lf_status b rb _ _ _ _ _ _ _ _ _ 3 (by kernel_rfl) hT7).mono ?_
  rintro e w8 ⟨rfl, rfl⟩
  go_wp2_with fail
  refine (l_reap b rb _ _ (lf 2 4 c v 0 true false true) ⟨v, c, false, 0⟩ (by kernel_rfl) hT7).mono ?_
  intro e w9 hpost
  obtain ⟨rfl, hT9, hK9⟩ := hpost.ok
  clear hpost
  have hK9 := hK7.drop hK9 HX.out
  go_wp2_with fail
  refine (lf_status b rb _ _ _ _ _ _ _ _ _ 0 (by kernel_rfl) hT9).mono ?_
  rintro e w10 ⟨rfl, rfl⟩
  go_wp2_with fail
  refine (lf_look b rb _ _ _ _ _ _ _ _ _ hT9).mono ?_
  rintro e w11 ⟨rfl, hK11⟩
  have hT11 := hT9.keeps hK11 (by simp) (by simp)
  have hK11 := hK9.trans hK11
  have hKA := hK11.alloc (.cells #[.int .u64 64, .int .i64 4, .int .u64 c, .int .u64 v, .int .u64 0, .bool false, .bool true] 48)
  have hTA := hT11.keeps ((Keeps.refl [] _).alloc (.cells #[.int .u64 64, .int .i64 4, .int .u64 c, .int .u64 v, .int .u64 0, .bool false, .bool true] 48)) (by simp) (by simp)
  go_wp2_with fail
  refine (l_leave b rb _ _ (lg 2) 0  (by kernel_rfl) hTA).mono ?_
  intro e w12 hpost
  obtain ⟨rfl, hT12, hK12⟩ := hpost.ok
  clear hpost
  have hK12 := hKA.drop hK12 HX.out
  go_wp2_with fail
  refine (l_reap b rb _ _ (lg 2) ⟨0, 0, false, 7⟩ (by kernel_rfl) hT12).mono ?_
  intro e w13 hpost
  obtain ⟨T13, y13, rfl, hEe13, hT13, hK13⟩ := hpost.bad (by decide)
  clear hpost
  have hK13 := hK12.drop hK13 HX.out
  go_wp2_with fail
  refine (no_any tabS 0 7 _).mono ?_
  rintro e w14 ⟨u14, rfl, hFu14, hK14⟩
  have hT14 := hT13.keeps hK14 (by simp) (by simp)
  have hEe14 := hEe13.keeps hK14
  have hK14 := hK13.trans hK14
  go_wp2_with fail
  refine (same_one _ _ tabS 0 7 _ (HG.out.keeps hK14 (by simp)) hEe14 hFu14 (by omega) (by omega)).mono ?_
  rintro e w15 ⟨rfl, hK15⟩
  have hT15 := hT14.keeps hK15 (by simp) (by simp)
  have hK15 := hK14.trans hK15
  go_wp2_with fail
  refine (lg_all b rb _ _ hT15).mono ?_
  rintro e w16 ⟨⟨a16, cap16, rfl⟩, hK16⟩
  have hT16 := hT15.keeps hK16 (by simp) (by simp)
  have hK16 := hK15.trans hK16
  go_wp2_with fail
  refine (awake_any _ (HG.out.keeps hK16 (by simp))).mono ?_
  rintro e w17 ⟨rfl, hK17⟩
  have hT17 := hT16.keeps hK17 (by simp) (by simp)
  have hK17 := hK16.trans hK17
  go_wp2_with fail
  go_ret
  exact ⟨rfl, hK17.below (Nat.le_refl _) (by simp)⟩

theorem tableLife_walk (v c : Int) (f l : Bool) (w : World) (_w0 : (Lit.int .u64 v).wf = true) (_w1 : (Lit.int .u64 c).wf = true) (hg : w.cell? ⟨0, 0, none⟩ = some (.iface 113 (.agg #[.pointer (some ⟨1, 24, none⟩)]))) :
    Calls Tryd.prog 6 #[.int .u64 v, .int .u64 c, .bool f, .bool l] w fun e w' => e = .returned (.bool true) ∧ Below w.heap.size w w' := by
  cases l with
  | true => exact tableLife_loose v c f w hg
  | false => cases f with
    | false => exact tableLife_false v c w hg
    | true => exact tableLife_true v c w hg
end Go.Proofs.YtghgfopcnaoaiaaDoor
