/-
  MemPlays: the walk of the statement's own function; 'same'.
-/
import Derived.Test.YtmciclhifcjoiaaDoorMemTwoWalk
namespace Go.Proofs.YtmciclhifcjoiaaDoor
open Go.RowKit

set_option maxRecDepth 100000 in
set_option maxHeartbeats 4000000 in
theorem same2_any (b cb wb rb rwb rhb : Nat) (s : MS) (w : World) (hgv : GV w) (hT : Two w b cb wb rb rwb rhb s) :
    Calls Tryd.prog 29 #[.pointer (some ⟨b, 0, none⟩), .pointer (some ⟨rb, 0, none⟩)] w (DoPost w b cb wb rb rwb rhb s) := by
  have h1 := hid (fun n => there_any b cb wb s (w.drewN n) hT.mem)
  have h2 := hid (fun n => rthere_any rb rwb rhb s (w.drewN n) hT.ref)
  have h3 := hid (fun n => count_any b cb wb s (w.drewN n) hT.mem)
  have c2 := hT.ref.1.cell (i := 2) rfl
  rw [hT.good.count] at h1
  generalize hL : s.width.length = L at *
  have hLm := hT.good.ok.most
  rw [hL] at hLm
  have HL := hid hL
  generalize ((cnt s.width : Nat) : Int) = t at *
  generalize s.count = c at *
  have htt : (t != t) = false := by simp
  have hcc : (c != c) = false := by simp
  have HG := hid hgv
  have HT := hid hT
  have H0 := hid (hT.gv hgv)
  clear hT hgv hL
  go_enter Tryd.func29, Tryd.ntmps29
  go_wp2_with fail
  go_quiet (first
    | (go_at_call 18; exact quiet_s (h1.out _))
    | (go_at_call 44; exact quiet_s (h2.out _))
    | (go_at_call 19; exact quiet_s (h3.out _)))
  clear c2 h1 h2 h3
  go_wp2_with fail
  generalize hw0 : w.drewN nq = w0
  have hK0 : Keeps [] w w0 := hw0 ▸ (Keeps.refl [] _).drewN _
  have hT0 : Two w0 b cb wb rb rwb rhb s := HT.out.keeps hK0 (by simp)
  clear hw0 htt hcc
  go_loopw [5] (fun i wr => ∃ (k : Nat) (s' : MS), k ≤ L + 1 ∧ i = .int .i64 k ∧ Two wr b cb wb rb rwb rhb s' ∧ s'.width.length = L ∧ Keeps [b, cb, wb, rb, rwb, rhb] w wr) (fun i _ => (L + 1 - (intOf i).toNat))
  case atStart => exact ⟨0, s, by omega, rfl, hT0, HL.out, hK0.mono (by simp)⟩
  case round =>
    obtain ⟨k, s', hk, rfl, hT, hl, hKR⟩ := hrel
    have d0 := hT.ref.1.cell (i := 0) rfl
    rw [hl] at d0
    by_cases hlt : k ≤ L
    · have HH := hid (do_any b cb wb rb rwb rhb s' 2 0 0 0 k 0 0 wr (HG.out.keeps hKR H0.out) hT (by omega) (by omega) (by omega) (by omega) (by omega) (by omega))
      have HL' := hid hl
      clear hT hl
      go_wp2_with fail
      refine HH.out.mono ?_
      rintro e w5 ⟨rfl, s5, hT5, hl5, hK5⟩
      have hK5 := hKR.trans hK5
      have HH5 := hid (do_any b cb wb rb rwb rhb s5 3 0 0 0 k 0 0 w5 (HG.out.keeps hK5 H0.out) hT5 (by omega) (by omega) (by omega) (by omega) (by omega) (by omega))
      have HL5 := hid hl5
      clear hT5 hl5 HH
      go_wp2_with fail
      refine HH5.out.mono ?_
      rintro e w6 ⟨rfl, s6, hT6, hl6, hK6⟩
      have HL6 := hid (hl6.trans (HL5.out.trans HL'.out))
      have hK6 := hK5.trans hK6
      clear hl6 HH5
      go_wp2_with fail
      go_roundw
      case rel => exact ⟨k + 1, s6, by omega, by go_num, hT6, HL6.out, hK6⟩
      case measure => simp [intOf]; omega
    · obtain rfl : k = L + 1 := by omega
      have HL' := hid hl
      clear hl
      go_wp2_with fail
      go_ret
      exact ⟨rfl, s', hT, HL'.out.trans HL.out.symm, hKR⟩

set_option maxRecDepth 100000 in
set_option maxHeartbeats 4000000 in
theorem memPlays_walk (m : Int) (a1 : Option Addr) (len cap1 : Nat) (F : Nat → Nat → Int) (w : World) (_w0 : (Lit.int .i64 m).wf = true) (w1 : OpsIn opKd2 7 w a1 len cap1 F) (hg : w.cell? ⟨0, 0, none⟩ = some (.iface 137 (.agg #[.pointer (some ⟨1, 24, none⟩)]))) :
    Calls Tryd.prog 5 #[.int .i64 m, .slice a1 len cap1] w fun e w' => e = .returned (.bool true) ∧ Below w.heap.size w w' := by
  have HG : Hid (GV w) := hid hg
  have hlen := w1.1
  unfold maxLen at hlen
  have HW := hid w1
  clear hg w1
  obtain ⟨q, hq, hq5⟩ : ∃ q : Nat, m % 40 = (q : Int) ∧ q < 40 := ⟨(m % 40).toNat, by omega, by omega⟩
  go_enter Tryd.func5, Tryd.ntmps5
  go_wp2_with fail
  refine (within_any m 40 _ (by omega) (by omega)).mono ?_
  rintro e w' ⟨rfl, rfl⟩
  rw [hq]
  go_wp2_with fail
  obtain ⟨n, hn⟩ : ∃ n : Nat, n = 1 + q := ⟨_, rfl⟩
  have hn2 : (1 + (q : Int)) = (n : Int) := by omega
  rw [hn2]
  have hn1 : 1 ≤ n := by omega
  have hn64 : n ≤ 64 := by omega
  clear hn2 hn hq hq5
  refine (new_ok n _ (by omega) (by omega)).mono ?_
  rintro e w1 ⟨b, cb, wb, rfl, hM, hK, hb, hcb, hwb⟩
  go_wp2_with fail
  refine (rnew_ok n _ (by omega) (by omega)).mono ?_
  rintro e w2 ⟨rb, rwb, rhb, rfl, hR, hK2, hrb, hrwb, hrhb⟩
  have l1 := hM.lt
  have s2 := hK.size
  have hM := hM.keeps hK2 (by simp) (by simp) (by simp)
  have hK2 := hK.trans hK2
  have hgood : (MS.new n).good := by
    refine ⟨hM.2.2.2.2.2.2, ?_, ?_⟩
    · intro i
      by_cases hi : i < n <;> simp [MS.new, List.getD, hi]
    · show (0 : Int) = ((cnt (List.replicate n 0) : Nat) : Int)
      unfold cnt
      rw [List.countP_replicate, if_neg (by decide)]
      rfl
  have hT : Two w2 b cb wb rb rwb rhb (MS.new n) := ⟨hM, hR, hgood, by omega⟩
  have HX : Hid (∀ x, x ∈ [b, cb, wb, rb, rwb, rhb] → x ∈ ([] : List Nat) ∨ w.heap.size ≤ x) := hid (by intro x hx; simp at hx; omega)
  clear hM hR l1 s2 hb hcb hwb hrb hrwb hrhb hK hgood
  go_wp2_with fail
  go_loopw [10] (fun i wr => ∃ (k : Nat) (s : MS), k ≤ len ∧ k ≤ 60 ∧ i = .int .i64 k ∧ Two wr b cb wb rb rwb rhb s ∧ Keeps [] w wr) (fun i _ => (60 - (intOf i).toNat))
  case atStart => exact ⟨0, _, by omega, by omega, rfl, hT, hK2⟩
  case round =>
    obtain ⟨k, s, hk, hk2, rfl, hT, hKR⟩ := hrel
    by_cases hlt : k < len ∧ k < 60
    · obtain ⟨hl1, hl2⟩ := hlt
      obtain ⟨xb, xo, rfl, hxb, hc⟩ := HW.out.elems (by omega) (by omega)
      have hc : ∀ j, j < 7 → wr.cell? ⟨xb, xo + (k * 7 + j), none⟩ = some (.int (opKd2 j) (F k j)) := fun j hj => (hKR.cell (p := ⟨xb, xo + (k * 7 + j), none⟩) hxb (by simp)).trans (hc k hl1 j hj)
      have e0 : wr.cell? ⟨xb, xo + k * 7, none⟩ = some (.int .i64 (F k 0)) := hc 0 (by omega)
      have e1 : wr.cell? ⟨xb, xo + k * 7 + 1, none⟩ = some (.int .i64 (F k 1)) := hc 1 (by omega)
      have e2 : wr.cell? ⟨xb, xo + k * 7 + 2, none⟩ = some (.int .i64 (F k 2)) := hc 2 (by omega)
      have e3 : wr.cell? ⟨xb, xo + k * 7 + 3, none⟩ = some (.int .i64 (F k 3)) := hc 3 (by omega)
      have e4 : wr.cell? ⟨xb, xo + k * 7 + 4, none⟩ = some (.int .u64 (F k 4)) := hc 4 (by omega)
      have e5 : wr.cell? ⟨xb, xo + k * 7 + 5, none⟩ = some (.int .u64 (F k 5)) := hc 5 (by omega)
      have e6 : wr.cell? ⟨xb, xo + k * 7 + 6, none⟩ = some (.int .u64 (F k 6)) := hc 6 (by omega)
      have f1 := bounds_i64 (HW.out.wf hl1 (show 1 < 7 by omega))
      have f4 := bounds_u64 (HW.out.wf hl1 (show 4 < 7 by omega))
      have f5 := bounds_u64 (HW.out.wf hl1 (show 5 < 7 by omega))
      have f6 := bounds_u64 (HW.out.wf hl1 (show 6 < 7 by omega))
      have HH := hid (do_any b cb wb rb rwb rhb s (F k 0) (F k 1) (F k 2) (F k 3) (F k 4) (F k 5) (F k 6) wr (HG.out.keeps hKR (by simp)) hT f1.2 f4.1 f5.1 f5.2 f6.1 f6.2)
      clear hc f1 f4 f5 f6 hT
      go_wp2_with fail
      refine HH.out.mono ?_
      rintro e w5 ⟨rfl, s', hT', hl', hK5⟩
      go_wp2_with fail
      go_roundw
      case rel => exact ⟨k + 1, s', by omega, by omega, by go_num, hT', hKR.drop hK5 HX.out⟩
      case measure => simp [intOf]; omega
    · have hcase : k = len ∨ (k < len ∧ k = 60) := by omega
      have HS := hid (same2_any b cb wb rb rwb rhb s wr (HG.out.keeps hKR (by simp)) hT)
      clear hT
      rcases hcase with hcl | ⟨hl1, hl2⟩
      all_goals
        go_wp2_with fail
        refine HS.out.mono ?_
        rintro e w6 ⟨rfl, s6, hT6, hl6, hK6⟩
        have hK6 := hKR.drop hK6 HX.out
        clear hT6 hl6
        go_wp2_with fail
        refine (awake_any _).mono ?_
        rintro e w7 ⟨rfl, hK7⟩
        go_wp2_with fail
        go_ret
        exact ⟨rfl, (hK6.trans hK7).below (Nat.le_refl _) (by simp)⟩
end Go.Proofs.YtmciclhifcjoiaaDoor
