/-
  Chapter 3's `same`: the program's allocator and the document's tell the same.
-/
import Derived.Test.YtmciclhifcjoiaaDoorRef03d
import Derived.Test.YtmciclhifcjoiaaDoorAllocTellsWalk
namespace Go.Proofs.YtmciclhifcjoiaaDoor
open Go.RowKit

set_option maxRecDepth 100000 in
set_option maxHeartbeats 4000000 in
theorem same3_any (base ab b rbase rab rb : Nat) (lv rlv : Value) (x : AS) (w : World) (hA : AllocAt w base ab b lv x) (hR : RAllocAt w rbase rab rb rlv x) (hx : x.ok) (hln : x.l.length ≤ 1000) :
    Calls Tryd.prog 43 #[.pointer (some ⟨ab, 0, none⟩), .pointer (some ⟨rab, 0, none⟩)] w fun e w' => e = .returned (.bool true) ∧ Keeps [] w w' := by
  have HX := hid hx
  have HA := hid hA
  have HRA := hid hR
  clear hA hR hx
  go_enter Tryd.func43, Tryd.ntmps43
  go_wp2_with fail
  refine (blocks_any base ab b lv x 1000 _ HA.out HX.out (by omega)).mono ?_
  intro e w2 h
  obtain ⟨v8, rfl, hO8, hK8⟩ := blocks_all hln h
  obtain ⟨a8, cap8, rfl, hT8⟩ := told_of hO8
  have HA2 := hid (HA.out.keeps hK8 (by simp) (by simp))
  have HR2 := hid (HRA.out.keeps hK8 (by simp) (by simp))
  have HT2 := hid hT8
  have HK2 := hid hK8
  clear h hO8 hT8 hK8
  obtain ⟨ra, rcap, rfl, hrT⟩ := told_of HR2.out.2.2
  have HRT2 := hid hrT
  have c3 := HR2.out.2.1.cell (i := 3) rfl
  obtain ⟨U, hU⟩ : ∃ U, used x.l = U := ⟨_, rfl⟩
  obtain ⟨D, hD⟩ : ∃ D, widest x (x.l.length + 1) = D := ⟨_, rfl⟩
  have HU := hid hU
  have HD := hid hD
  have hUn : (U != U) = false := by simp
  have hDn : (D != D) = false := by simp
  have hnn : ((x.l.length : Int) != (x.l.length : Int)) = false := by simp
  clear hrT hU hD
  go_wp2_with fail
  refine (used_any _ _ b _ _ _ HA2.out HX.out).mono ?_
  rintro e w3 ⟨rfl, hK3⟩
  rw [HU.out]
  have HA3 := hid (HA2.out.keeps hK3 (by simp) (by simp))
  have HR3 := hid (HR2.out.keeps hK3 (by simp) (by simp))
  have HT3 := hid (HT2.out.keeps hK3)
  have HRT3 := hid (HRT2.out.keeps hK3)
  have HK3 := hid (HK2.out.trans hK3)
  clear hK3 c3
  go_wp2_with fail
  refine (rused_any _ _ rb _ _ _ HR3.out HX.out).mono ?_
  rintro e w' ⟨rfl, rfl⟩
  rw [HU.out]
  go_wp2_with fail
  refine (widest_any _ _ b _ _ _ HA3.out HX.out).mono ?_
  rintro e w4 ⟨rfl, hK4⟩
  rw [HD.out]
  have HR4 := hid (HR3.out.keeps hK4 (by simp) (by simp))
  have HT4 := hid (HT3.out.keeps hK4)
  have HRT4 := hid (HRT3.out.keeps hK4)
  have HK4 := hid (HK3.out.trans hK4)
  clear hK4
  go_wp2_with fail
  refine (rwidest_any _ _ rb _ _ _ HR4.out HX.out).mono ?_
  rintro e w5 ⟨rfl, hK5⟩
  rw [HD.out]
  have HR5 := hid (HR4.out.keeps hK5 (by simp) (by simp))
  have HT5 := hid (HT4.out.keeps hK5)
  have HRT5 := hid (HRT4.out.keeps hK5)
  have HK5 := hid (HK4.out.trans hK5)
  clear hK5
  generalize hn : x.l.length = n at *
  have HN := hid hn
  clear hn
  go_wp2_with fail
  go_loopw [6] (fun i wr => ∃ j : Nat, j ≤ n ∧ i = .int .i64 j ∧ Keeps [] w5 wr) (fun i _ => (n - (intOf i).toNat))
  case atStart => exact ⟨0, by omega, rfl, Keeps.refl _ _⟩
  case round =>
    obtain ⟨j, hj, rfl, hKR⟩ := hrel
    by_cases hjn : j < n
    · obtain ⟨y, hy⟩ : ∃ y, x.l[j]? = some y := ⟨_, List.getElem?_eq_getElem (by rw [HN.out]; omega)⟩
      obtain ⟨g8, rfl, _, q0, q1, q2⟩ := (HT5.out.keeps hKR) j y hy
      obtain ⟨g9, rfl, _, p0, p1, p2⟩ := (HRT5.out.keeps hKR) j y hy
      have c3 := (HR5.out.keeps hKR (by simp) (by simp)).2.1.cell (i := 3) rfl
      clear hy
      generalize y.pos = y0 at *
      generalize y.n = y1 at *
      generalize y.wd = y2 at *
      have b0 : (y0 != y0) = false := by simp
      have b1 : (y1 != y1) = false := by simp
      have b2 : (y2 != y2) = false := by simp
      go_wp2_with fail
      go_quiet (fail)
      go_wp2_with fail
      go_roundw
      case rel => exact ⟨j + 1, by omega, by go_num, hKR.drewN _⟩
      case measure => simp [intOf]; omega
    · obtain rfl : j = n := by omega
      go_wp2_with fail
      go_ret
      exact ⟨rfl, HK5.out.trans hKR⟩
end Go.Proofs.YtmciclhifcjoiaaDoor
