/-
  The document's memory: Do, by its kinds. (Printed by gen_ref02b.py.)
-/
import Derived.Test.YtmciclhifcjoiaaDoorRef02a
namespace Go.Proofs.YtmciclhifcjoiaaDoor
open Go.RowKit

theorem rpost_tick {w : World} {b wb hb : Nat} {s : MS} (hM : RefAt w b wb hb s) :
    RefAt (w.setCell ⟨b, 2, none⟩ (.int .i64 (wrap64 (s.count + 1)))) b wb hb s.tick ∧ Keeps [b, hb] w (w.setCell ⟨b, 2, none⟩ (.int .i64 (wrap64 (s.count + 1)))) := by
  obtain ⟨h0, h1, h2, hbc, hbw, hcw, hok⟩ := hM
  exact ⟨⟨h0.set 2 _, h1.other (by simpa using hbc) _, h2.other (by simpa using hbw) _, hbc, hbw, hcw, hok.len, hok.most, hok.widths⟩, (Keeps.refl _ _).set (by simp) _⟩

theorem rpost_put {w : World} {b wb hb : Nat} {s : MS} (hM : RefAt w b wb hb s) (i : Nat) (v : Int) :
    RefAt ((w.setCell ⟨b, 2, none⟩ (.int .i64 (wrap64 (s.count + 1)))).setCell ⟨hb, i, none⟩ (.int .u64 v)) b wb hb (s.put i v) ∧
      Keeps [b, hb] w ((w.setCell ⟨b, 2, none⟩ (.int .i64 (wrap64 (s.count + 1)))).setCell ⟨hb, i, none⟩ (.int .u64 v)) := by
  obtain ⟨h0, h1, h2, hbc, hbw, hcw, hok⟩ := hM
  refine ⟨⟨(h0.set 2 _).other (by simpa using hbw.symm) _, (h1.other (by simpa using hbc) _).other (by simpa using hcw.symm) _, ?_, hbc, hbw, hcw, ?_, hok.most, hok.widths⟩, ((Keeps.refl _ _).set (by simp) _).set (by simp) _⟩
  · have h := (h2.other (a := ⟨b, 2, none⟩) (by simpa using hbw) (.int .i64 (wrap64 (s.count + 1)))).set i (.int .u64 v)
    rw [ints_set] at h
    exact h
  · show (s.hold.set i v).length = s.width.length
    rw [List.length_set]
    exact hok.len

section
variable (b wb hb : Nat) (s : MS) (a o v : Int) (w : World) (hM : RefAt w b wb hb s) (h0 : 0 ≤ a)
include hM h0

/-- An access of what is not there. -/
def DoNo (w : World) (a : Int) (e : Ending) (w' : World) : Prop := ∃ u, e = .returned (.tuple #[.int .u64 0, u]) ∧ FailAt w' u [(memS, placeI a)] 2 ∧ Keeps [] w w'

set_option maxHeartbeats 1000000 in
theorem do_no (k : Int) (hw : s.width.getD a.toNat 0 = 0) : Calls Tryd.prog 54 #[.pointer (some ⟨b, 0, none⟩), .int .i64 k, .int .u64 a, .int .u64 o, .int .u64 v] w (DoNo w a) := by
  have HK := hid hw
  clear hw
  by_cases hp : a ≤ 4611686018427387904
  · have HP := hid (show placeI a = a by simp [placeI, hp])
    have d1 : decide (4611686018427387904 < a) = false := by simp; omega
    go_enter Tryd.func54, Tryd.ntmps54
    go_wp2_with fail
    refine (rwidth_any b wb hb s a _ hM h0).mono ?_
    rintro e w' ⟨rfl, rfl⟩
    rw [HK.out]
    go_wp2_with fail
    refine (no_any memS a 2 _).mono ?_
    rintro e w' ⟨u, rfl, hF, hK⟩
    go_wp2_with fail
    go_ret2
    exact ⟨u, rfl, by rw [HP.out]; exact hF, hK⟩
  · have HP := hid (show placeI a = 0 by simp [placeI, hp])
    have d1 : decide (4611686018427387904 < a) = true := by simp; omega
    go_enter Tryd.func54, Tryd.ntmps54
    go_wp2_with fail
    refine (rwidth_any b wb hb s a _ hM h0).mono ?_
    rintro e w' ⟨rfl, rfl⟩
    rw [HK.out]
    go_wp2_with fail
    refine (no_any memS 0 2 _).mono ?_
    rintro e w' ⟨u, rfl, hF, hK⟩
    go_wp2_with fail
    go_ret2
    exact ⟨u, rfl, by rw [HP.out]; exact hF, hK⟩

variable (hw : s.width.getD a.toNat 0 ≠ 0) (hv0 : 0 ≤ v) (hv1 : v ≤ 18446744073709551615) (ho0 : 0 ≤ o) (ho1 : o ≤ 18446744073709551615) (hs0 : 0 ≤ s.hold.getD a.toNat 0) (hs1 : s.hold.getD a.toNat 0 ≤ 18446744073709551615)
include hw hv0 hv1 ho0 ho1 hs0 hs1

omit h0 hv0 hv1 ho0 ho1 in
theorem do_facts : ∃ (n : Nat) (x wd : Int), w.cell? ⟨b, 1, none⟩ = some (.slice (some ⟨hb, 0, none⟩) n n) ∧ w.cell? ⟨b, 2, none⟩ = some (.int .i64 s.count) ∧
    w.frozen? ⟨b, 2, none⟩ = false ∧ w.cell? ⟨hb, a.toNat, none⟩ = some (.int .u64 x) ∧ w.frozen? ⟨hb, a.toNat, none⟩ = false ∧ n ≤ 65536 ∧ a.toNat < n ∧ (wd == 0) = false ∧ b ≠ hb ∧
    Hid (s.hold.getD a.toNat 0 = x) ∧ Hid (s.width.getD a.toNat 0 = wd) ∧ 0 ≤ x ∧ x ≤ 18446744073709551615 := by
  have hok := hM.2.2.2.2.2.2
  have hlen := hok.len
  have h1 : a.toNat < s.width.length := by
    rcases Nat.lt_or_ge a.toNat s.width.length with h | h
    · exact h
    · exact absurd (by simp [List.getD, h]) hw
  exact ⟨s.width.length, _, _, hM.1.cell (i := 1) rfl, hM.1.cell (i := 2) rfl, hM.1.frozen 2, hM.2.2.1.cell (ints_get (by omega)), hM.2.2.1.frozen _, hok.most, h1, beq_eq_false_iff_ne.2 hw, hM.2.2.2.2.1, hid rfl, hid rfl, hs0, hs1⟩

/-- An access of what is there. -/
def DoOk (w : World) (b wb hb : Nat) (s s' : MS) (a : Int) (e : Ending) (w' : World) : Prop := e = .returned (.tuple #[.int .u64 (s.hold.getD a.toNat 0), .pointer none]) ∧ RefAt w' b wb hb s' ∧ Keeps [b, hb] w w'

omit hv0 hv1 ho0 ho1 in
set_option maxHeartbeats 2000000 in
theorem do_load : Calls Tryd.prog 54 #[.pointer (some ⟨b, 0, none⟩), .int .i64 0, .int .u64 a, .int .u64 o, .int .u64 v] w (DoOk w b wb hb s (s.acc 0 a o v) a) := by
  obtain ⟨n, x, wd, hc0, hc3, hf3, hx, hfx, hn, h1, hwd, hbc, HX, HK, hx0, hx1⟩ := do_facts b wb hb s a w hM hw hs0 hs1
  unfold DoOk
  rw [MS.acc_load, HX.out]
  go_enter Tryd.func54, Tryd.ntmps54
  go_wp2_with fail
  refine (rwidth_any b wb hb s a _ hM h0).mono ?_
  rintro e w' ⟨rfl, rfl⟩
  rw [HK.out]
  go_wp2_with fail
  go_ret2
  exact ⟨rfl, rpost_tick hM⟩

omit ho0 ho1 in
set_option maxHeartbeats 2000000 in
theorem do_store : Calls Tryd.prog 54 #[.pointer (some ⟨b, 0, none⟩), .int .i64 1, .int .u64 a, .int .u64 o, .int .u64 v] w (DoOk w b wb hb s (s.acc 1 a o v) a) := by
  obtain ⟨n, x, wd, hc0, hc3, hf3, hx, hfx, hn, h1, hwd, hbc, HX, HK, hx0, hx1⟩ := do_facts b wb hb s a w hM hw hs0 hs1
  unfold DoOk
  rw [MS.acc_store, HX.out, HK.out]
  go_enter Tryd.func54, Tryd.ntmps54
  go_wp2_with fail
  refine (rwidth_any b wb hb s a _ hM h0).mono ?_
  rintro e w' ⟨rfl, rfl⟩
  rw [HK.out]
  go_wp2_with fail
  go_region_with (go_at_call 71; refine (rcut_any _ _ _ hv0 hv1).mono ?_; rintro e w' ⟨rfl, rfl⟩)
  all_goals go_wp2
  all_goals go_ret2
  all_goals exact ⟨rfl, (rpost_put hM _ _).1.drew, (rpost_put hM _ _).2.drew⟩

omit ho0 ho1 in
set_option maxHeartbeats 2000000 in
theorem do_swap : Calls Tryd.prog 54 #[.pointer (some ⟨b, 0, none⟩), .int .i64 2, .int .u64 a, .int .u64 o, .int .u64 v] w (DoOk w b wb hb s (s.acc 2 a o v) a) := by
  obtain ⟨n, x, wd, hc0, hc3, hf3, hx, hfx, hn, h1, hwd, hbc, HX, HK, hx0, hx1⟩ := do_facts b wb hb s a w hM hw hs0 hs1
  unfold DoOk
  rw [MS.acc_swap, HX.out, HK.out]
  go_enter Tryd.func54, Tryd.ntmps54
  go_wp2_with fail
  refine (rwidth_any b wb hb s a _ hM h0).mono ?_
  rintro e w' ⟨rfl, rfl⟩
  rw [HK.out]
  go_wp2_with fail
  go_region_with (go_at_call 71; refine (rcut_any _ _ _ hv0 hv1).mono ?_; rintro e w' ⟨rfl, rfl⟩)
  all_goals go_wp2
  all_goals go_ret2
  all_goals exact ⟨rfl, (rpost_put hM _ _).1.drew, (rpost_put hM _ _).2.drew⟩

omit ho0 ho1 in
set_option maxHeartbeats 2000000 in
theorem do_add : Calls Tryd.prog 54 #[.pointer (some ⟨b, 0, none⟩), .int .i64 3, .int .u64 a, .int .u64 o, .int .u64 v] w (DoOk w b wb hb s (s.acc 3 a o v) a) := by
  obtain ⟨n, x, wd, hc0, hc3, hf3, hx, hfx, hn, h1, hwd, hbc, HX, HK, hx0, hx1⟩ := do_facts b wb hb s a w hM hw hs0 hs1
  unfold DoOk
  rw [MS.acc_add, HX.out, HK.out]
  go_enter Tryd.func54, Tryd.ntmps54
  go_wp2_with fail
  refine (rwidth_any b wb hb s a _ hM h0).mono ?_
  rintro e w' ⟨rfl, rfl⟩
  rw [HK.out]
  go_wp2_with fail
  go_region_with (go_at_call 72; refine (rsum_any _ _ _ _ hx0 hx1 hv0 hv1).mono ?_; rintro e w' ⟨rfl, rfl⟩)
  all_goals go_wp2
  all_goals go_ret2
  all_goals exact ⟨rfl, (rpost_put hM _ _).1.drew, (rpost_put hM _ _).2.drew⟩

set_option maxHeartbeats 2000000 in
theorem do_cas : Calls Tryd.prog 54 #[.pointer (some ⟨b, 0, none⟩), .int .i64 4, .int .u64 a, .int .u64 o, .int .u64 v] w (DoOk w b wb hb s (s.acc 4 a o v) a) := by
  obtain ⟨n, x, wd, hc0, hc3, hf3, hx, hfx, hn, h1, hwd, hbc, HX, HK, hx0, hx1⟩ := do_facts b wb hb s a w hM hw hs0 hs1
  unfold DoOk
  by_cases hq : s.hold.getD a.toNat 0 = cutI (s.width.getD a.toNat 0) o
  · rw [MS.acc_cas_yes _ _ _ _ hq, HX.out, HK.out]
    rw [HX.out, HK.out] at hq
    have hq1 : (x == cutI wd o) = true := by simp [hq]
    clear hq
    go_enter Tryd.func54, Tryd.ntmps54
    go_wp2_with fail
    refine (rwidth_any b wb hb s a _ hM h0).mono ?_
    rintro e w' ⟨rfl, rfl⟩
    rw [HK.out]
    go_wp2_with fail
    refine (rcut_any _ _ _ ho0 ho1).mono ?_
    rintro e w' ⟨rfl, rfl⟩
    go_wp2_with fail
    go_region_with (go_at_call 71; refine (rcut_any _ _ _ hv0 hv1).mono ?_; rintro e w' ⟨rfl, rfl⟩)
    all_goals go_wp2
    all_goals go_ret2
    all_goals exact ⟨rfl, (rpost_put hM _ _).1.drew, (rpost_put hM _ _).2.drew⟩
  · rw [MS.acc_cas_no _ _ _ _ hq, HX.out]
    rw [HX.out, HK.out] at hq
    have hq1 : (x == cutI wd o) = false := by simpa using hq
    clear hq
    go_enter Tryd.func54, Tryd.ntmps54
    go_wp2_with fail
    refine (rwidth_any b wb hb s a _ hM h0).mono ?_
    rintro e w' ⟨rfl, rfl⟩
    rw [HK.out]
    go_wp2_with fail
    refine (rcut_any _ _ _ ho0 ho1).mono ?_
    rintro e w' ⟨rfl, rfl⟩
    go_wp2_with fail
    go_ret2
    exact ⟨rfl, rpost_tick hM⟩
end
end Go.Proofs.YtmciclhifcjoiaaDoor
