/-
  AllocNews: the walk of the statement's own function.
-/
import Derived.Test.YtmciclhifcjoiaaDoorAl8
import Derived.Test.YtmciclhifcjoiaaDoorAllocTellsWalk
namespace Go.Proofs.YtmciclhifcjoiaaDoor
open Go.RowKit

set_option maxRecDepth 100000 in
set_option maxHeartbeats 2000000 in
theorem allocNews_no (f t : Int) (q : Bool) (w : World) (hg : GV w) (h : q = true ∨ f < 0 ∨ t < f) :
    Calls Tryd.prog 9 #[.int .i64 f, .int .i64 t, .bool q] w fun e w' => e = .returned (.bool true) ∧ Below w.heap.size w w' := by
  have HG := hid hg
  clear hg
  obtain ⟨d1, hd1⟩ : ∃ d, decide (f < 0) = d := ⟨_, rfl⟩
  obtain ⟨d2, hd2⟩ : ∃ d, decide (t < f) = d := ⟨_, rfl⟩
  have hq : q = true ∨ d1 = true ∨ d2 = true := by
    rcases h with h | h | h
    · exact .inl h
    · exact .inr (.inl (by rw [← hd1]; simpa using h))
    · exact .inr (.inr (by rw [← hd2]; simpa using h))
  have H := hid h
  clear h
  cases q <;> cases d1 <;> cases d2 <;> simp at hq
  all_goals
    go_enter Tryd.func9, Tryd.ntmps9
    go_wp2_with fail
    refine (new_ok 10 _ (by omega) (by omega)).mono ?_
    rintro e w1 ⟨b, cb, wb, rfl, hM, hK, hb, hcb, hwb⟩
    have HK := hid hK
    clear hM hb hcb hwb hK
    go_wp2_with fail
    refine (anew_arg _ f t _ (by have := H.out; first | exact .inl rfl | (right; simp at this; omega) | (right; omega))).mono ?_
    rintro e w2 ⟨rfl, hw2⟩
    have hE := ErrAt.fresh w1 allocS 0 1
    have hK2 := (Keeps.refl [] w1).alloc (.cells #[.string allocS, .int .i64 0, .iface 30 (.int .i64 1)] 97)
    rw [hw2] at hE hK2
    have HE := hid hE
    have HK2 := hid (HK.out.trans hK2)
    clear hw2 hE hK2
    go_wp2_with fail
    refine (no_any allocS 0 1 _).mono ?_
    rintro e w3 ⟨u, rfl, hF3, hK3⟩
    have HK3 := hid (HK2.out.trans hK3)
    go_wp2_with fail
    refine (same_one _ u allocS 0 1 _ (HG.out.keeps HK3.out (by simp)) (ErrAt.keeps hK3 HE.out) hF3 (by omega) (by omega)).mono ?_
    rintro e w4 ⟨rfl, hK4⟩
    have HK4 := hid (HK3.out.trans hK4)
    clear hK3 hK4 hF3
    go_wp2_with fail
    refine (awake3_any _ (HG.out.keeps HK4.out (by simp))).mono ?_
    rintro e w5 ⟨rfl, hK5⟩
    go_wp2_with fail
    go_ret
    exact ⟨rfl, (HK4.out.trans hK5).below (Nat.le_refl _) (by simp)⟩

set_option maxRecDepth 100000 in
set_option maxHeartbeats 2000000 in
theorem allocNews_yes (f t : Int) (w : World) (hg : GV w) (h0 : 0 ≤ f) (h1 : f ≤ t) (h2 : t ≤ 9223372036854775807) :
    Calls Tryd.prog 9 #[.int .i64 f, .int .i64 t, .bool false] w fun e w' => e = .returned (.bool true) ∧ Below w.heap.size w w' := by
  have HG := hid hg
  clear hg
  have d1 : decide (f < 0) = false := by simp; omega
  have d2 : decide (t < f) = false := by simp; omega
  have HX : Hid (AS.ok ⟨f, t, []⟩) := hid ⟨h0, h2, h1, by simp⟩
  have HW : Hid (widest ⟨f, t, []⟩ 1 = t - f) := hid (by simp [widest, gapOf, startOf, endOf]; omega)
  have htt : ((t - f) == (t - f)) = true := by simp
  go_enter Tryd.func9, Tryd.ntmps9
  go_wp2_with fail
  refine (new_ok 10 _ (by omega) (by omega)).mono ?_
  rintro e w1 ⟨b, cb, wb, rfl, hM, hK, hb, hcb, hwb⟩
  have HK := hid hK
  clear hM hb hcb hwb hK
  go_wp2_with fail
  refine (anew_ok b f t _ h0 h1).mono ?_
  rintro e w2 ⟨rfl, hA, hK2, hs⟩
  have HA := hid hA
  have HK2 := hid (HK.out.trans hK2)
  clear hA hK2 hs
  go_wp2_with fail
  refine (used_any _ _ b _ _ _ HA.out HX.out).mono ?_
  rintro e w3 ⟨rfl, hK3⟩
  have HA3 := hid (HA.out.keeps hK3 (by simp) (by simp))
  have HK3 := hid (HK2.out.trans hK3)
  rw [show used ({ fr := f, til := t, l := [] } : AS).l = 0 from rfl]
  clear hK3
  go_wp2_with fail
  refine (widest_any _ _ b _ _ _ HA3.out HX.out).mono ?_
  rintro e w4 ⟨rfl, hK4⟩
  have HA4 := hid (HA3.out.keeps hK4 (by simp) (by simp))
  have HK4 := hid (HK3.out.trans hK4)
  rw [show widest ({ fr := f, til := t, l := [] } : AS) (({ fr := f, til := t, l := [] } : AS).l.length + 1) = t - f from HW.out]
  clear hK4
  have b1 : 0 ≤ t - f := by omega
  have b2 : t - f ≤ 9223372036854775807 := by omega
  go_wp2_with fail
  refine (blocks_any _ _ b _ _ 3 _ HA4.out HX.out (by omega)).mono ?_
  rintro e w5 ⟨v, rfl, hO, hK5⟩
  have HK5 := hid (HK4.out.trans hK5)
  obtain ⟨a, cap, rfl⟩ := len_form hO
  rw [show (({ fr := f, til := t, l := [] } : AS).l.take (3 : Int).toNat).length = 0 from by simp]
  clear hO hK5
  go_wp2_with fail
  refine (awake3_any _ (HG.out.keeps HK5.out (by simp))).mono ?_
  rintro e w6 ⟨rfl, hK6⟩
  go_wp2_with fail
  go_ret
  exact ⟨rfl, (HK5.out.trans hK6).below (Nat.le_refl _) (by simp)⟩

theorem allocNews_walk (f t : Int) (q : Bool) (w : World) (_w0 : (Lit.int .i64 f).wf = true) (w1 : (Lit.int .i64 t).wf = true)
    (hg : w.cell? ⟨0, 0, none⟩ = some (.iface 137 (.agg #[.pointer (some ⟨1, 24, none⟩)]))) :
    Calls Tryd.prog 9 #[.int .i64 f, .int .i64 t, .bool q] w fun e w' => e = .returned (.bool true) ∧ Below w.heap.size w w' := by
  have b1 := bounds_i64 w1
  by_cases h : q = true ∨ f < 0 ∨ t < f
  · exact allocNews_no f t q w hg h
  · have hq : q = false := by cases q <;> simp at h ⊢
    subst hq
    exact allocNews_yes f t w hg (by simp at h; omega) (by simp at h; omega) b1.2
end Go.Proofs.YtmciclhifcjoiaaDoor
