/-
  MemTwo: the walk of the statement's own function.
-/
import Derived.Test.YtmciclhifcjoiaaDoorDo
import Derived.Test.YtmciclhifcjoiaaDoorOpen
namespace Go.Proofs.YtmciclhifcjoiaaDoor
open Go.RowKit

def opKd2 : Nat → IntKind := fun j => [IntKind.i64, IntKind.i64, IntKind.i64, IntKind.i64, IntKind.u64, IntKind.u64, IntKind.u64].getD j .i64

theorem full_good (n : Nat) (hn : n ≤ 65536) : (MS.full n).good := by
  refine ⟨⟨by simp [MS.full], by simpa [MS.full] using hn, ?_⟩, ?_, ?_⟩
  · intro x hx
    simp [MS.full] at hx
    exact .inr (.inr hx.2)
  · intro i
    by_cases hi : i < n <;> simp [MS.full, List.getD, hi]
  · show (n : Int) = ((cnt (List.replicate n 64) : Nat) : Int)
    unfold cnt
    rw [List.countP_replicate, if_pos (by decide)]

theorem rmap_full (n : Nat) (rb rwb rhb : Nat) (w : World) (hR : RefAt w rb rwb rhb (MS.new n)) (h1 : 1 ≤ n) (hn : n ≤ 65536) :
    Calls Tryd.prog 30 #[.pointer (some ⟨rb, 0, none⟩), .int .i64 0, .int .i64 (n : Int), .int .i64 64] w fun e w' => e = .returned (.pointer none) ∧ RefAt w' rb rwb rhb (MS.full n) ∧ Keeps [rb, rwb, rhb] w w' := by
  refine (rmap_ok rb rwb rhb (MS.new n) 0 n w hR (by omega) (by omega) (by simp [MS.new]) 64 (.inr rfl) (by intro i hi; simp [MS.new, List.getD, List.getElem?_replicate]; split <;> rfl)).mono ?_
  rintro e w' ⟨he, hR, hK⟩
  have h := hR.there (wrap64 ((MS.new n).there + n))
  rw [← full_eq n hn]
  exact ⟨he, h, hK⟩

/-- n wide cells behind c accesses. -/
def fullC (n : Nat) (c : Int) : MS := { MS.full n with count := c }

theorem fullC_load (n : Nat) (b cb wb k : Nat) (c : Int) (w : World) (hM : MemAt w b cb wb (fullC n c)) (hk : k < n) :
    Calls Tryd.prog 26 #[.pointer (some ⟨b, 0, none⟩), .int .u64 (k : Int)] w fun e w' =>
      e = .returned (.tuple #[.int .u64 0, .nilIface]) ∧ MemAt w' b cb wb (fullC n (wrap64 (c + 1))) ∧ Keeps [b, cb] w w' := by
  have e1 : (fullC n c).width.getD (k : Int).toNat 0 = 64 := by simp [fullC, MS.full, List.getD, hk]
  have e2 : (fullC n c).hold.getD (k : Int).toNat 0 = 0 := by simp [fullC, MS.full, List.getD, hk]
  have h := load_ok b cb wb (fullC n c) (k : Int) w hM (by omega) (by rw [e1]; omega)
  rw [e2] at h
  exact h

set_option maxRecDepth 100000 in
set_option maxHeartbeats 4000000 in
theorem memTwo_walk (a0 : Option Addr) (len cap0 : Nat) (F : Nat → Nat → Int) (w : World) (w0 : OpsIn opKd2 7 w a0 len cap0 F) (hg : w.cell? ⟨0, 0, none⟩ = some (.iface 137 (.agg #[.pointer (some ⟨1, 24, none⟩)]))) :
    Calls Tryd.prog 6 #[.slice a0 len cap0] w fun e w' => e = .returned (.bool true) ∧ Below w.heap.size w w' := by
  have HG : Hid (GV w) := hid hg
  have hlen := w0.1
  unfold maxLen at hlen
  have HW := hid w0
  clear hg w0
  go_enter Tryd.func6, Tryd.ntmps6
  go_wp2_with fail
  refine (full_any 8 _ (by omega) (by omega)).mono ?_
  rintro e w1 ⟨b, cb, wb, rfl, hM, hK, hb, hcb, hwb⟩
  go_wp2_with fail
  refine (full_any 8 _ (by omega) (by omega)).mono ?_
  rintro e w2 ⟨b2, cb2, wb2, rfl, hM2, hK2, hb2, hcb2, hwb2⟩
  have l1 := hM.lt
  have l2 := hM2.lt
  have hM := hM.keeps hK2 (by simp) (by simp) (by simp)
  have hK2 := hK.trans hK2
  have s2 := hK.size
  go_wp2_with fail
  refine (rnew_ok 8 _ (by omega) (by omega)).mono ?_
  rintro e w3 ⟨rb, rwb, rhb, rfl, hR, hK3, hrb, hrwb, hrhb⟩
  have hM := hM.keeps hK3 (by simp) (by simp) (by simp)
  have hM2 := hM2.keeps hK3 (by simp) (by simp) (by simp)
  have hK3 := hK2.trans hK3
  go_wp2_with fail
  refine (rmap_full 8 rb rwb rhb _ hR (by omega) (by omega)).mono ?_
  rintro e w4 ⟨rfl, hR, hK4⟩
  have l3 := hM2.lt
  have hM := hM.keeps hK4 (by simp; omega) (by simp; omega) (by simp; omega)
  have hM2 := hM2.keeps hK4 (by simp; omega) (by simp; omega) (by simp; omega)
  have hK4 := hK3.drop hK4 (by intro x hx; simp at hx; omega)
  have hT : Two w4 b cb wb rb rwb rhb (MS.full 8) := ⟨hM, hR, full_good 8 (by omega), by omega⟩
  have HX : Hid (∀ x, x ∈ [b, cb, wb, rb, rwb, rhb] → x ∈ ([] : List Nat) ∨ w.heap.size ≤ x) := hid (by intro x hx; simp at hx; omega)
  have HX2 : Hid (b2 ∉ [b, cb, wb, rb, rwb, rhb] ∧ cb2 ∉ [b, cb, wb, rb, rwb, rhb] ∧ wb2 ∉ [b, cb, wb, rb, rwb, rhb]) := hid (by simp; omega)
  have HX3 : Hid (∀ x, x ∈ [b2, cb2] → x ∈ ([] : List Nat) ∨ w.heap.size ≤ x) := hid (by intro x hx; simp at hx; omega)
  clear hM hR l1 l2 l3 s2 hb hcb hwb hb2 hcb2 hwb2 hrb hrwb hrhb hK hK2 hK3
  go_wp2_with fail
  go_loopw [7] (fun i wr => ∃ (k : Nat) (s : MS), k ≤ len ∧ k ≤ 40 ∧ i = .int .i64 k ∧ Two wr b cb wb rb rwb rhb s ∧ MemAt wr b2 cb2 wb2 (MS.full 8) ∧ Keeps [] w wr) (fun i _ => (40 - (intOf i).toNat))
  case atStart => exact ⟨0, _, by omega, by omega, rfl, hT, hM2, hK4⟩
  case round =>
    obtain ⟨k, s, hk, hk2, rfl, hT, hM2, hKR⟩ := hrel
    by_cases hlt : k < len ∧ k < 40
    · obtain ⟨hl1, hl2⟩ := hlt
      obtain ⟨xb, xo, rfl, hxb, hc⟩ := HW.out.elems (by omega) (by omega)
      have hc : ∀ j, j < 7 → wr.cell? ⟨xb, xo + (k * 7 + j), none⟩ = some (.int (opKd2 j) (F k j)) := fun j hj => (hKR.cell (p := ⟨xb, xo + (k * 7 + j), none⟩) hxb (by simp)).trans (hc k hl1 j hj)
      have e0 : wr.cell? ⟨xb, xo + k * 7, none⟩ = some (.int .i64 (F k 0)) := hc 0 (by omega)
      have e1 : wr.cell? ⟨xb, xo + k * 7 + 1, none⟩ = some (.int .i64 (F k 1)) := hc 1 (by omega)
      have e2 : wr.cell? ⟨xb, xo + k * 7 + 2, none⟩ = some (.int .i64 (F k 2)) := hc 2 (by omega)
      have e3 : wr.cell? ⟨xb, xo + k * 7 + 3, none⟩ = some (.int .i64 (F k 3)) := hc 3 (by omega)
      have e4 : wr.cell? ⟨xb, xo + k * 7 + 4, none⟩ = some (.int .u64 (F k 4)) := hc 4 (by omega)
      have e5 : wr.cell? ⟨xb, xo + k * 7 + 5, none⟩ = some (.int .u64 (F k 5)) := hc 5 (by omega)
      have e6 : wr.cell? ⟨xb, xo + k * 7 + 6, none⟩ = some (.int .u64 (F k 6)) := hc 6 (by omega)
      have f1 := bounds_i64 (HW.out.wf hl1 (show 1 < 7 by omega))
      have f4 := bounds_u64 (HW.out.wf hl1 (show 4 < 7 by omega))
      have f5 := bounds_u64 (HW.out.wf hl1 (show 5 < 7 by omega))
      have f6 := bounds_u64 (HW.out.wf hl1 (show 6 < 7 by omega))
      have HH := hid (do_any b cb wb rb rwb rhb s (F k 0) (F k 1) (F k 2) (F k 3) (F k 4) (F k 5) (F k 6) wr (HG.out.keeps hKR (by simp)) hT f1.2 f4.1 f5.1 f5.2 f6.1 f6.2)
      have HM2 := hid hM2
      clear hc f1 f4 f5 f6 hT hM2
      go_wp2_with fail
      refine HH.out.mono ?_
      rintro e w5 ⟨rfl, s', hT', hl', hK5⟩
      go_wp2_with fail
      go_roundw
      case rel => exact ⟨k + 1, s', by omega, by omega, by go_num, hT', HM2.out.keeps hK5 HX2.out.1 HX2.out.2.1 HX2.out.2.2, hKR.drop hK5 HX.out⟩
      case measure => simp [intOf]; omega
    · have hcase : k = len ∨ (k < len ∧ k = 40) := by omega
      clear hT
      rcases hcase with hcl | ⟨hl1, hl2⟩
      all_goals
        go_wp2_with fail
        refine (count_any b2 cb2 wb2 _ _ hM2).mono ?_
        rintro e w5 ⟨rfl, rfl⟩
        rw [show (MS.full 8).count = 0 from rfl]
        go_wp2_with fail
        refine (there_any b2 cb2 wb2 _ _ hM2).mono ?_
        rintro e w5 ⟨rfl, rfl⟩
        rw [show (MS.full 8).there = 8 from rfl]
        go_wp2_with fail
        obtain ⟨wo, rfl⟩ : ∃ wo : World, wo = wr := ⟨_, rfl⟩
        go_loopw [8] (fun i wr => ∃ (k : Nat) (c : Int), k ≤ 8 ∧ i = .int .u64 k ∧ MemAt wr b2 cb2 wb2 (fullC 8 c) ∧ Keeps [] w wr) (fun i _ => (8 - (intOf i).toNat))
        case atStart => exact ⟨0, 0, by omega, rfl, hM2, hKR⟩
        case round =>
          obtain ⟨j, c, hj, rfl, hMj, hKj⟩ := hrel
          by_cases hlt : j < 8
          · go_wp2_with fail
            refine (fullC_load 8 b2 cb2 wb2 j c _ hMj hlt).mono ?_
            rintro e w7 ⟨rfl, hM7, hK7⟩
            go_wp2_with fail
            go_roundw
            case rel => exact ⟨j + 1, _, by omega, by go_num, hM7, hKj.drop hK7 HX3.out⟩
            case measure => simp [intOf]; omega
          · obtain rfl : j = 8 := by omega
            go_wp2_with fail
            refine (awake_any _).mono ?_
            rintro e w7 ⟨rfl, hK7⟩
            go_wp2_with fail
            go_ret
            exact ⟨rfl, (hKj.trans hK7).below (Nat.le_refl _) (by simp)⟩
end Go.Proofs.YtmciclhifcjoiaaDoor
