/-
  TableJoins: the walk of the statement's own function. (Printed by gen_life.py.)
-/
import Derived.Test.YtghgfopcnaoaiaaDoorTableRows
import Derived.Test.YtghgfopcnaoaiaaDoorRowIn
namespace Go.Proofs.YtghgfopcnaoaiaaDoor
open Go.RowKit
set_option maxRecDepth 100000 in
set_option maxHeartbeats 2000000 in
theorem tableJoins_loose0 (other : Int) (w : World) (hg : w.cell? ⟨0, 0, none⟩ = some (.iface 113 (.agg #[.pointer (some ⟨1, 24, none⟩)]))) : Calls Tryd.prog 7 #[.int .u64 0, .int .u64 other, .bool true] w fun e w' => e = .returned (.bool true) ∧ Below w.heap.size w w' := by
  have HG : Hid (GV w) := hid hg
  clear hg
  go_enter Tryd.func7, Tryd.ntmps7
  go_wp2_with fail
  refine (tnew_ok 2 _ (by omega) (by omega)).mono ?_
  rintro e w1 ⟨b, rb, rfl, hT1, hK1, hb, hrb⟩
  have hx : ∀ x, x ∈ [rb] → x ∈ ([] : List Nat) ∨ w.heap.size ≤ x := by intro x hx; simp at hx; omega
  have HX := hid hx
  clear hx
  go_wp2_with fail
  refine (lf_born b rb 1 (1) _ hT1).mono ?_
  rintro e w2 ⟨rfl, hT2, hK2⟩
  have hK2 := hK1.drop hK2 HX.out
  go_wp2_with fail
  refine (no_any tabS 0 8 _).mono ?_
  rintro e w3 ⟨s3, rfl, hFs3, hK3⟩
  have hT3 := hT2.keeps hK3 (by simp) (by simp)
  have hK3 := hK2.trans hK3
  go_wp2_with fail
  refine (l_join b rb _ _ (lf 1 1 (1) 0 0 false false false) 1 0 (by kernel_rfl) hT3).mono ?_
  intro e w4 hpost
  obtain ⟨T4, y4, rfl, hEe4, hT4, hK4⟩ := hpost.bad (by decide)
  clear hpost
  have hFs4 := hFs3.over hT3 hK4
  have hK4 := hK3.drop hK4 HX.out
  go_wp2_with fail
  refine (no_any tabS 0 1 _).mono ?_
  rintro e w5 ⟨u5, rfl, hFu5, hK5⟩
  have hT5 := hT4.keeps hK5 (by simp) (by simp)
  have hFs5 := hFs4.keeps hK5
  have hEe5 := hEe4.keeps hK5
  have hK5 := hK4.trans hK5
  go_wp2_with fail
  refine (same_one _ _ tabS 0 1 _ (HG.out.keeps hK5 (by simp)) hEe5 hFu5 (by omega) (by omega)).mono ?_
  rintro e w6 ⟨rfl, hK6⟩
  have hT6 := hT5.keeps hK6 (by simp) (by simp)
  have hFs6 := hFs5.keeps hK6
  have hK6 := hK5.trans hK6
  go_wp2_with fail
  refine (l_loose b rb _ _ (lf 1 1 1 0 0 false true false) 0  (by kernel_rfl) hT6).mono ?_
  intro e w7 hpost
  obtain ⟨rfl, hT7, hK7⟩ := hpost.ok
  clear hpost
  have hFs7 := hFs6.over hT6 hK7
  have hK7 := hK6.drop hK7 HX.out
  go_wp2_with fail
  refine (l_loose b rb _ _ (lf 1 1 1 0 0 false true false) 8  (by kernel_rfl) hT7).mono ?_
  intro e w8 hpost
  obtain ⟨T8, y8, rfl, hEe8, hT8, hK8⟩ := hpost.bad (by decide)
  clear hpost
  have hFs8 := hFs7.over hT7 hK8
  have hK8 := hK7.drop hK8 HX.out
  go_wp2_with fail
  refine (same_one _ _ tabS 0 8 _ (HG.out.keeps hK8 (by simp)) hEe8 hFs8 (by omega) (by omega)).mono ?_
  rintro e w9 ⟨rfl, hK9⟩
  have hT9 := hT8.keeps hK9 (by simp) (by simp)
  have hFs9 := hFs8.keeps hK9
  have hK9 := hK8.trans hK9
  go_wp2_with fail
  refine (lf_status b rb _ _ _ _ _ _ _ _ _ 2 (by kernel_rfl) hT9).mono ?_
  rintro e w10 ⟨rfl, rfl⟩
  go_wp2_with fail
  refine (awake_any _ (HG.out.keeps hK9 (by simp))).mono ?_
  rintro e w11 ⟨rfl, hK11⟩
  have hT11 := hT9.keeps hK11 (by simp) (by simp)
  have hFs11 := hFs9.keeps hK11
  have hK11 := hK9.trans hK11
  go_wp2_with fail
  go_ret
  exact ⟨rfl, hK11.below (Nat.le_refl _) (by simp)⟩

set_option maxRecDepth 100000 in
set_option maxHeartbeats 2000000 in
theorem tableJoins_loose (who other : Int) (w : World) (hw : who ≠ 0) (hg : w.cell? ⟨0, 0, none⟩ = some (.iface 113 (.agg #[.pointer (some ⟨1, 24, none⟩)]))) : Calls Tryd.prog 7 #[.int .u64 who, .int .u64 other, .bool true] w fun e w' => e = .returned (.bool true) ∧ Below w.heap.size w w' := by
  have h0 : (who == 0) = false := by simpa using hw
  have HW := hid hw
  clear hw
  have HG : Hid (GV w) := hid hg
  clear hg
  go_enter Tryd.func7, Tryd.ntmps7
  go_wp2_with fail
  refine (tnew_ok 2 _ (by omega) (by omega)).mono ?_
  rintro e w1 ⟨b, rb, rfl, hT1, hK1, hb, hrb⟩
  have hx : ∀ x, x ∈ [rb] → x ∈ ([] : List Nat) ∨ w.heap.size ≤ x := by intro x hx; simp at hx; omega
  have HX := hid hx
  clear hx
  go_wp2_with fail
  refine (lf_born b rb 1 (1) _ hT1).mono ?_
  rintro e w2 ⟨rfl, hT2, hK2⟩
  have hK2 := hK1.drop hK2 HX.out
  go_wp2_with fail
  refine (no_any tabS 0 8 _).mono ?_
  rintro e w3 ⟨s3, rfl, hFs3, hK3⟩
  have hT3 := hT2.keeps hK3 (by simp) (by simp)
  have hK3 := hK2.trans hK3
  go_wp2_with fail
  refine (l_join b rb _ _ (lf 1 1 (1) 0 0 false false false) 1 0 (by kernel_rfl) hT3).mono ?_
  intro e w4 hpost
  obtain ⟨T4, y4, rfl, hEe4, hT4, hK4⟩ := hpost.bad (by decide)
  clear hpost
  have hFs4 := hFs3.over hT3 hK4
  have hK4 := hK3.drop hK4 HX.out
  go_wp2_with fail
  refine (no_any tabS 0 1 _).mono ?_
  rintro e w5 ⟨u5, rfl, hFu5, hK5⟩
  have hT5 := hT4.keeps hK5 (by simp) (by simp)
  have hFs5 := hFs4.keeps hK5
  have hEe5 := hEe4.keeps hK5
  have hK5 := hK4.trans hK5
  go_wp2_with fail
  refine (same_one _ _ tabS 0 1 _ (HG.out.keeps hK5 (by simp)) hEe5 hFu5 (by omega) (by omega)).mono ?_
  rintro e w6 ⟨rfl, hK6⟩
  have hT6 := hT5.keeps hK6 (by simp) (by simp)
  have hFs6 := hFs5.keeps hK6
  have hK6 := hK5.trans hK6
  go_wp2_with fail
  refine (l_loose b rb _ _ (lf 1 1 1 0 0 false true false) 0  (by kernel_rfl) hT6).mono ?_
  intro e w7 hpost
  obtain ⟨rfl, hT7, hK7⟩ := hpost.ok
  clear hpost
  have hFs7 := hFs6.over hT6 hK7
  have hK7 := hK6.drop hK7 HX.out
  go_wp2_with fail
  refine (l_loose b rb _ _ (lf 1 1 1 0 0 false true false) 8  (by kernel_rfl) hT7).mono ?_
  intro e w8 hpost
  obtain ⟨T8, y8, rfl, hEe8, hT8, hK8⟩ := hpost.bad (by decide)
  clear hpost
  have hFs8 := hFs7.over hT7 hK8
  have hK8 := hK7.drop hK8 HX.out
  go_wp2_with fail
  refine (same_one _ _ tabS 0 8 _ (HG.out.keeps hK8 (by simp)) hEe8 hFs8 (by omega) (by omega)).mono ?_
  rintro e w9 ⟨rfl, hK9⟩
  have hT9 := hT8.keeps hK9 (by simp) (by simp)
  have hFs9 := hFs8.keeps hK9
  have hK9 := hK8.trans hK9
  go_wp2_with fail
  refine (l_join b rb _ _ (lf 1 1 1 0 0 false true false) 8 who (by show joinF _ 64 who = _; exact (if_neg HW.out).trans rfl) hT9).mono ?_
  intro e w10 hpost
  obtain ⟨T10, y10, rfl, hEe10, hT10, hK10⟩ := hpost.bad (by decide)
  clear hpost
  have hFs10 := hFs9.over hT9 hK10
  have hK10 := hK9.drop hK10 HX.out
  go_wp2_with fail
  refine (same_one _ _ tabS 0 8 _ (HG.out.keeps hK10 (by simp)) hEe10 hFs10 (by omega) (by omega)).mono ?_
  rintro e w11 ⟨rfl, hK11⟩
  have hT11 := hT10.keeps hK11 (by simp) (by simp)
  have hFs11 := hFs10.keeps hK11
  have hK11 := hK10.trans hK11
  go_wp2_with fail
  refine (lf_status b rb _ _ _ _ _ _ _ _ _ 2 (by kernel_rfl) hT11).mono ?_
  rintro e w12 ⟨rfl, rfl⟩
  go_wp2_with fail
  refine (awake_any _ (HG.out.keeps hK11 (by simp))).mono ?_
  rintro e w13 ⟨rfl, hK13⟩
  have hT13 := hT11.keeps hK13 (by simp) (by simp)
  have hFs13 := hFs11.keeps hK13
  have hK13 := hK11.trans hK13
  go_wp2_with fail
  go_ret
  exact ⟨rfl, hK13.below (Nat.le_refl _) (by simp)⟩

set_option maxRecDepth 100000 in
set_option maxHeartbeats 2000000 in
theorem tableJoins_who0 (other : Int) (w : World) (hg : w.cell? ⟨0, 0, none⟩ = some (.iface 113 (.agg #[.pointer (some ⟨1, 24, none⟩)]))) : Calls Tryd.prog 7 #[.int .u64 0, .int .u64 other, .bool false] w fun e w' => e = .returned (.bool true) ∧ Below w.heap.size w w' := by
  have HG : Hid (GV w) := hid hg
  clear hg
  go_enter Tryd.func7, Tryd.ntmps7
  go_wp2_with fail
  refine (tnew_ok 2 _ (by omega) (by omega)).mono ?_
  rintro e w1 ⟨b, rb, rfl, hT1, hK1, hb, hrb⟩
  have hx : ∀ x, x ∈ [rb] → x ∈ ([] : List Nat) ∨ w.heap.size ≤ x := by intro x hx; simp at hx; omega
  have HX := hid hx
  clear hx
  go_wp2_with fail
  refine (lf_born b rb 1 (1) _ hT1).mono ?_
  rintro e w2 ⟨rfl, hT2, hK2⟩
  have hK2 := hK1.drop hK2 HX.out
  go_wp2_with fail
  refine (no_any tabS 0 8 _).mono ?_
  rintro e w3 ⟨s3, rfl, hFs3, hK3⟩
  have hT3 := hT2.keeps hK3 (by simp) (by simp)
  have hK3 := hK2.trans hK3
  go_wp2_with fail
  refine (l_join b rb _ _ (lf 1 1 (1) 0 0 false false false) 1 0 (by kernel_rfl) hT3).mono ?_
  intro e w4 hpost
  obtain ⟨T4, y4, rfl, hEe4, hT4, hK4⟩ := hpost.bad (by decide)
  clear hpost
  have hFs4 := hFs3.over hT3 hK4
  have hK4 := hK3.drop hK4 HX.out
  go_wp2_with fail
  refine (no_any tabS 0 1 _).mono ?_
  rintro e w5 ⟨u5, rfl, hFu5, hK5⟩
  have hT5 := hT4.keeps hK5 (by simp) (by simp)
  have hFs5 := hFs4.keeps hK5
  have hEe5 := hEe4.keeps hK5
  have hK5 := hK4.trans hK5
  go_wp2_with fail
  refine (same_one _ _ tabS 0 1 _ (HG.out.keeps hK5 (by simp)) hEe5 hFu5 (by omega) (by omega)).mono ?_
  rintro e w6 ⟨rfl, hK6⟩
  have hT6 := hT5.keeps hK6 (by simp) (by simp)
  have hFs6 := hFs5.keeps hK6
  have hK6 := hK5.trans hK6
  go_wp2_with fail
  refine (lf_status b rb _ _ _ _ _ _ _ _ _ 1 (by kernel_rfl) hT6).mono ?_
  rintro e w7 ⟨rfl, rfl⟩
  go_wp2_with fail
  refine (awake_any _ (HG.out.keeps hK6 (by simp))).mono ?_
  rintro e w8 ⟨rfl, hK8⟩
  have hT8 := hT6.keeps hK8 (by simp) (by simp)
  have hFs8 := hFs6.keeps hK8
  have hK8 := hK6.trans hK8
  go_wp2_with fail
  go_ret
  exact ⟨rfl, hK8.below (Nat.le_refl _) (by simp)⟩

set_option maxRecDepth 100000 in
set_option maxHeartbeats 2000000 in
theorem tableJoins_other0 (who : Int) (w : World) (hw : who ≠ 0) (hg : w.cell? ⟨0, 0, none⟩ = some (.iface 113 (.agg #[.pointer (some ⟨1, 24, none⟩)]))) : Calls Tryd.prog 7 #[.int .u64 who, .int .u64 0, .bool false] w fun e w' => e = .returned (.bool true) ∧ Below w.heap.size w w' := by
  have h0 : (who == 0) = false := by simpa using hw
  clear hw
  have HG : Hid (GV w) := hid hg
  clear hg
  go_enter Tryd.func7, Tryd.ntmps7
  go_wp2_with fail
  refine (tnew_ok 2 _ (by omega) (by omega)).mono ?_
  rintro e w1 ⟨b, rb, rfl, hT1, hK1, hb, hrb⟩
  have hx : ∀ x, x ∈ [rb] → x ∈ ([] : List Nat) ∨ w.heap.size ≤ x := by intro x hx; simp at hx; omega
  have HX := hid hx
  clear hx
  go_wp2_with fail
  refine (lf_born b rb 1 (1) _ hT1).mono ?_
  rintro e w2 ⟨rfl, hT2, hK2⟩
  have hK2 := hK1.drop hK2 HX.out
  go_wp2_with fail
  refine (no_any tabS 0 8 _).mono ?_
  rintro e w3 ⟨s3, rfl, hFs3, hK3⟩
  have hT3 := hT2.keeps hK3 (by simp) (by simp)
  have hK3 := hK2.trans hK3
  go_wp2_with fail
  refine (l_join b rb _ _ (lf 1 1 (1) 0 0 false false false) 1 0 (by kernel_rfl) hT3).mono ?_
  intro e w4 hpost
  obtain ⟨T4, y4, rfl, hEe4, hT4, hK4⟩ := hpost.bad (by decide)
  clear hpost
  have hFs4 := hFs3.over hT3 hK4
  have hK4 := hK3.drop hK4 HX.out
  go_wp2_with fail
  refine (no_any tabS 0 1 _).mono ?_
  rintro e w5 ⟨u5, rfl, hFu5, hK5⟩
  have hT5 := hT4.keeps hK5 (by simp) (by simp)
  have hFs5 := hFs4.keeps hK5
  have hEe5 := hEe4.keeps hK5
  have hK5 := hK4.trans hK5
  go_wp2_with fail
  refine (same_one _ _ tabS 0 1 _ (HG.out.keeps hK5 (by simp)) hEe5 hFu5 (by omega) (by omega)).mono ?_
  rintro e w6 ⟨rfl, hK6⟩
  have hT6 := hT5.keeps hK6 (by simp) (by simp)
  have hFs6 := hFs5.keeps hK6
  have hK6 := hK5.trans hK6
  go_wp2_with fail
  refine (lf_status b rb _ _ _ _ _ _ _ _ _ 1 (by kernel_rfl) hT6).mono ?_
  rintro e w7 ⟨rfl, rfl⟩
  go_wp2_with fail
  refine (awake_any _ (HG.out.keeps hK6 (by simp))).mono ?_
  rintro e w8 ⟨rfl, hK8⟩
  have hT8 := hT6.keeps hK8 (by simp) (by simp)
  have hFs8 := hFs6.keeps hK8
  have hK8 := hK6.trans hK8
  go_wp2_with fail
  go_ret
  exact ⟨rfl, hK8.below (Nat.le_refl _) (by simp)⟩

set_option maxRecDepth 100000 in
set_option maxHeartbeats 2000000 in
theorem tableJoins_both (who other : Int) (w : World) (hw : who ≠ 0) (ho : other ≠ 0) (hg : w.cell? ⟨0, 0, none⟩ = some (.iface 113 (.agg #[.pointer (some ⟨1, 24, none⟩)]))) : Calls Tryd.prog 7 #[.int .u64 who, .int .u64 other, .bool false] w fun e w' => e = .returned (.bool true) ∧ Below w.heap.size w w' := by
  have h0 : (who == 0) = false := by simpa using hw
  have h1 : (other == 0) = false := by simpa using ho
  have hww : (who == who) = true := by simp
  have HW := hid hw
  have HO := hid ho
  clear hw ho
  have HG : Hid (GV w) := hid hg
  clear hg
  go_enter Tryd.func7, Tryd.ntmps7
  go_wp2_with fail
  refine (tnew_ok 2 _ (by omega) (by omega)).mono ?_
  rintro e w1 ⟨b, rb, rfl, hT1, hK1, hb, hrb⟩
  have hx : ∀ x, x ∈ [rb] → x ∈ ([] : List Nat) ∨ w.heap.size ≤ x := by intro x hx; simp at hx; omega
  have HX := hid hx
  clear hx
  go_wp2_with fail
  refine (lf_born b rb 1 (1) _ hT1).mono ?_
  rintro e w2 ⟨rfl, hT2, hK2⟩
  have hK2 := hK1.drop hK2 HX.out
  go_wp2_with fail
  refine (no_any tabS 0 8 _).mono ?_
  rintro e w3 ⟨s3, rfl, hFs3, hK3⟩
  have hT3 := hT2.keeps hK3 (by simp) (by simp)
  have hK3 := hK2.trans hK3
  go_wp2_with fail
  refine (l_join b rb _ _ (lf 1 1 (1) 0 0 false false false) 1 0 (by kernel_rfl) hT3).mono ?_
  intro e w4 hpost
  obtain ⟨T4, y4, rfl, hEe4, hT4, hK4⟩ := hpost.bad (by decide)
  clear hpost
  have hFs4 := hFs3.over hT3 hK4
  have hK4 := hK3.drop hK4 HX.out
  go_wp2_with fail
  refine (no_any tabS 0 1 _).mono ?_
  rintro e w5 ⟨u5, rfl, hFu5, hK5⟩
  have hT5 := hT4.keeps hK5 (by simp) (by simp)
  have hFs5 := hFs4.keeps hK5
  have hEe5 := hEe4.keeps hK5
  have hK5 := hK4.trans hK5
  go_wp2_with fail
  refine (same_one _ _ tabS 0 1 _ (HG.out.keeps hK5 (by simp)) hEe5 hFu5 (by omega) (by omega)).mono ?_
  rintro e w6 ⟨rfl, hK6⟩
  have hT6 := hT5.keeps hK6 (by simp) (by simp)
  have hFs6 := hFs5.keeps hK6
  have hK6 := hK5.trans hK6
  go_wp2_with fail
  refine (l_join b rb _ _ (lf 1 1 1 0 who false false false) 0 who (by exact (if_neg HW.out).trans rfl) hT6).mono ?_
  intro e w7 hpost
  obtain ⟨rfl, hT7, hK7⟩ := hpost.ok
  clear hpost
  have hFs7 := hFs6.over hT6 hK7
  have hK7 := hK6.drop hK7 HX.out
  go_wp2_with fail
  refine (l_join b rb _ _ (lf 1 1 1 0 who false false false) 8 other (by exact (if_neg HO.out).trans (if_pos (Or.inl HW.out))) hT7).mono ?_
  intro e w8 hpost
  obtain ⟨T8, y8, rfl, hEe8, hT8, hK8⟩ := hpost.bad (by decide)
  clear hpost
  have hFs8 := hFs7.over hT7 hK8
  have hK8 := hK7.drop hK8 HX.out
  go_wp2_with fail
  refine (same_one _ _ tabS 0 8 _ (HG.out.keeps hK8 (by simp)) hEe8 hFs8 (by omega) (by omega)).mono ?_
  rintro e w9 ⟨rfl, hK9⟩
  have hT9 := hT8.keeps hK9 (by simp) (by simp)
  have hFs9 := hFs8.keeps hK9
  have hK9 := hK8.trans hK9
  go_wp2_with fail
  refine (l_loose b rb _ _ (lf 1 1 1 0 who false false false) 8  (by exact if_pos (Or.inl HW.out)) hT9).mono ?_
  intro e w10 hpost
  obtain ⟨T10, y10, rfl, hEe10, hT10, hK10⟩ := hpost.bad (by decide)
  clear hpost
  have hFs10 := hFs9.over hT9 hK10
  have hK10 := hK9.drop hK10 HX.out
  go_wp2_with fail
  refine (same_one _ _ tabS 0 8 _ (HG.out.keeps hK10 (by simp)) hEe10 hFs10 (by omega) (by omega)).mono ?_
  rintro e w11 ⟨rfl, hK11⟩
  have hT11 := hT10.keeps hK11 (by simp) (by simp)
  have hFs11 := hFs10.keeps hK11
  have hK11 := hK10.trans hK11
  go_wp2_with fail
  refine (lf_status b rb _ _ _ _ _ _ _ _ _ 4 (by exact if_pos HW.out) hT11).mono ?_
  rintro e w12 ⟨rfl, rfl⟩
  go_wp2_with fail
  refine (lf_look b rb _ _ _ _ _ _ _ _ _ hT11).mono ?_
  rintro e w13 ⟨rfl, hK13⟩
  have hT13 := hT11.keeps hK13 (by simp) (by simp)
  have hFs13 := hFs11.keeps hK13
  have hK13 := hK11.trans hK13
  have hKA := hK13.alloc (.cells #[.int .u64 64, .int .i64 1, .int .u64 1, .int .u64 0, .int .u64 who, .bool false, .bool false] 48)
  have hTA := hT13.keeps ((Keeps.refl [] _).alloc (.cells #[.int .u64 64, .int .i64 1, .int .u64 1, .int .u64 0, .int .u64 who, .bool false, .bool false] 48)) (by simp) (by simp)
  go_wp2_with fail
  refine (l_end b rb _ _ (lf 1 4 1 5 who false false true) 0 5 (by kernel_rfl) hTA).mono ?_
  intro e w14 hpost
  obtain ⟨rfl, hT14, hK14⟩ := hpost.ok
  clear hpost
  have hK14 := hKA.drop hK14 HX.out
  go_wp2_with fail
  refine (lf_status b rb _ _ _ _ _ _ _ _ _ 4 (by exact if_pos HW.out) hT14).mono ?_
  rintro e w15 ⟨rfl, rfl⟩
  go_wp2_with fail
  refine (awake_any _ (HG.out.keeps hK14 (by simp))).mono ?_
  rintro e w16 ⟨rfl, hK16⟩
  have hT16 := hT14.keeps hK16 (by simp) (by simp)
  have hK16 := hK14.trans hK16
  go_wp2_with fail
  go_ret
  exact ⟨rfl, hK16.below (Nat.le_refl _) (by simp)⟩

theorem tableJoins_walk (who other : Int) (l : Bool) (w : World) (_w0 : (Lit.int .u64 who).wf = true) (_w1 : (Lit.int .u64 other).wf = true) (hg : w.cell? ⟨0, 0, none⟩ = some (.iface 113 (.agg #[.pointer (some ⟨1, 24, none⟩)]))) :
    Calls Tryd.prog 7 #[.int .u64 who, .int .u64 other, .bool l] w fun e w' => e = .returned (.bool true) ∧ Below w.heap.size w w' := by
  by_cases hw : who = 0
  · subst hw
    cases l with
    | true => exact tableJoins_loose0 other w hg
    | false => exact tableJoins_who0 other w hg
  · cases l with
    | true => exact tableJoins_loose who other w hw hg
    | false =>
      by_cases ho : other = 0
      · subst ho; exact tableJoins_other0 who w hw hg
      · exact tableJoins_both who other w hw ho hg
end Go.Proofs.YtghgfopcnaoaiaaDoor
