/-
  TableStates: the walk of the statement's own function.
-/
import Derived.Test.YtghgfopcnaoaiaaDoorLaw11
import Derived.Test.YtghgfopcnaoaiaaDoorRowIn
namespace Go.Proofs.YtghgfopcnaoaiaaDoor
open Go.RowKit

/-- A table of one thread in a state. -/
def one (st : Int) : List TRow := [⟨1, true, false, 64, st, 4, 0, 0, false, false⟩]
def over1 : List TRow := [⟨1, true, false, 64, 4, 4, 6, 0, false, true⟩]

section
variable (b rb : Nat) (st x : Int) (w : World)
theorem one_born (hT : TableAt w b rb (tNew 1)) : Calls Tryd.prog 14 #[.pointer (some ⟨b, 0, none⟩), .int .u64 4] w (BornPost w b rb 64 (one 1)) :=
  (show (bornRow zrow 0 4).id = 64 from by kernel_rfl) ▸ (show (tNew 1).set 0 (bornRow zrow 0 4) = one 1 from by kernel_rfl) ▸ born_ok b rb (tNew 1) 0 zrow 4 w hT rfl rfl (by intro j q hj; omega)

theorem one_idx : idx (one st) 64 = some 0 := rfl
theorem one_row : rowOf (one st) 0 = ⟨1, true, false, 64, st, 4, 0, 0, false, false⟩ := rfl

theorem one_be_yes (hT : TableAt w b rb (one st)) (hst : st ≠ 4) (hx : aliveB x = true) : Calls Tryd.prog 20 #[.pointer (some ⟨b, 0, none⟩), .int .u64 64, .int .i64 x] w fun e w' => e = .returned .nilIface ∧ TableAt w' b rb (one x) ∧ Keeps [rb] w w' := by
  have e : beF (one st) 64 x = (0, one x) := by
    unfold beF
    rw [one_idx]
    simp only [hx]
    exact (if_neg Bool.noConfusion).trans ((if_neg hst).trans rfl)
  exact (e ▸ be_any b rb (one st) 64 x w hT (by omega)).mono fun _ _ h => h.ok
theorem one_be_no (hT : TableAt w b rb (one st)) (hx : aliveB x = false) : Calls Tryd.prog 20 #[.pointer (some ⟨b, 0, none⟩), .int .u64 64, .int .i64 x] w (OpPost w b rb (1, one st)) := by
  have e : beF (one st) 64 x = (1, one st) := by
    unfold beF
    rw [one_idx]
    simp only [hx, if_true]
  exact e ▸ be_any b rb (one st) 64 x w hT (by omega)
theorem one_look (hT : TableAt w b rb (one st)) : Calls Tryd.prog 21 #[.pointer (some ⟨b, 0, none⟩), .int .u64 64] w fun e w' =>
    e = .returned (.tuple #[.agg #[.int .u64 64, .int .i64 st, .int .u64 4, .int .u64 0, .int .u64 0, .bool false, .bool false], .bool true]) ∧ Keeps [] w w' :=
  look_any b rb (one st) 64 w hT (by omega)
theorem one_end (hT : TableAt w b rb (one st)) (hst : st ≠ 4) : Calls Tryd.prog 18 #[.pointer (some ⟨b, 0, none⟩), .int .u64 64, .int .u64 6] w fun e w' => e = .returned .nilIface ∧ TableAt w' b rb over1 ∧ Keeps [rb] w w' := by
  have e : endF (one st) 64 6 = (0, over1) := by
    unfold endF
    rw [one_idx]
    exact (if_neg hst).trans rfl
  exact (e ▸ end_any b rb (one st) 64 6 w hT (by omega)).mono fun _ _ h => h.ok
theorem over_be (hT : TableAt w b rb over1) : Calls Tryd.prog 20 #[.pointer (some ⟨b, 0, none⟩), .int .u64 64, .int .i64 1] w (OpPost w b rb (8, over1)) :=
  (show beF over1 64 1 = (8, over1) from by kernel_rfl) ▸ be_any b rb over1 64 1 w hT (by omega)
theorem over_end (hT : TableAt w b rb over1) : Calls Tryd.prog 18 #[.pointer (some ⟨b, 0, none⟩), .int .u64 64, .int .u64 6] w (OpPost w b rb (8, over1)) :=
  (show endF over1 64 6 = (8, over1) from by kernel_rfl) ▸ end_any b rb over1 64 6 w hT (by omega)
theorem over_look (hT : TableAt w b rb over1) : Calls Tryd.prog 21 #[.pointer (some ⟨b, 0, none⟩), .int .u64 64] w fun e w' =>
    e = .returned (.tuple #[.agg #[.int .u64 64, .int .i64 4, .int .u64 4, .int .u64 6, .int .u64 0, .bool false, .bool true], .bool true]) ∧ Keeps [] w w' :=
  look_any b rb over1 64 w hT (by omega)
end

set_option maxRecDepth 100000 in
set_option maxHeartbeats 4000000 in
theorem tableStates_walk (a0 : Option Addr) (len cap : Nat) (zs : List Int) (w : World) (w0 : RowIn' .i64 w a0 len cap zs) (hg : w.cell? ⟨0, 0, none⟩ = some (.iface 113 (.agg #[.pointer (some ⟨1, 24, none⟩)]))) :
    Calls Tryd.prog 5 #[.slice a0 len cap] w fun e w' => e = .returned (.bool true) ∧ Below w.heap.size w w' := by
  have HG : Hid (GV w) := hid hg
  have hlen := w0.len_le
  have HW := hid w0
  clear hg w0
  go_enter Tryd.func5, Tryd.ntmps5
  go_wp2_with fail
  refine (tnew_ok 1 _ (by omega) (by omega)).mono ?_
  rintro e w1 ⟨b, rb, rfl, hT, hK, hb, hrb⟩
  have hx : ∀ x, x ∈ [rb] → x ∈ ([] : List Nat) ∨ w.heap.size ≤ x := by intro x hx; simp at hx; omega
  have HX := hid hx
  clear hx
  go_wp2_with fail
  refine (one_born b rb _ hT).mono ?_
  rintro e w2 ⟨rfl, hT2, hK2⟩
  have hK2 := hK.drop hK2 HX.out
  go_wp2_with fail
  go_loopw [7, 8] (fun s i wr => ∃ (k : Nat) (st : Int), k ≤ len ∧ k ≤ 50 ∧ i = .int .i64 k ∧ s = .int .i64 st ∧ aliveB st = true ∧ TableAt wr b rb (one st) ∧ Keeps [] w wr) (fun _ i _ => (50 - (intOf i).toNat))
  case atStart => exact ⟨0, 1, by omega, by omega, rfl, rfl, rfl, hT2, hK2⟩
  case round =>
    obtain ⟨k, st, hk, hk2, rfl, rfl, hal, hTR, hKR⟩ := hrel
    have hst : st ≠ 4 := by rintro rfl; cases hal
    have HAL := hid hal
    have HST := hid hst
    clear hal hst
    by_cases hlt : k < len ∧ k < 50
    · obtain ⟨hl1, hl2⟩ := hlt
      obtain ⟨xb, xo, rfl, hxb, hz, hc, hw⟩ := HW.out.elems (by omega)
      have hck := (hKR.cell (p := ⟨xb, xo + k, none⟩) hxb (by simp)).trans (hc k (by omega))
      clear hc hw
      generalize zs.getD k 0 = x at *
      by_cases hax : aliveB x = true
      · have hx3 : x = 1 ∨ x = 2 ∨ x = 3 := by simp [aliveB] at hax; omega
        rcases hx3 with rfl | rfl | rfl
        all_goals
          go_wp2_with fail
          refine (one_be_yes b rb st _ _ hTR HST.out hax).mono ?_
          rintro e w3 ⟨rfl, hT3, hK3⟩
          have hck3 := (hK3.cell (p := ⟨xb, xo + k, none⟩) (lt_of_cell hck) (by simp; omega)).trans hck
          have hK3 := hKR.drop hK3 HX.out
          go_wp2_with fail
          refine (one_look b rb _ _ hT3).mono ?_
          rintro e w4 ⟨rfl, hK4⟩
          have hT4 := hT3.keeps hK4 (by simp) (by simp)
          have hK4' := hK3.trans hK4
          have HAX := hid hax
          clear hax
          go_wp2_with fail
          go_roundw
          case rel => exact ⟨k + 1, _, by omega, by omega, by go_num, rfl, HAX.out, hT4.keeps ((Keeps.refl [] w4).alloc _) (by simp) (by simp), hK4'.alloc _⟩
          case measure => simp [intOf]; omega
      · have hax0 : aliveB x = false := by simpa using hax
        have b1 : (x == 1) = false := by simp [aliveB] at hax0; simp; omega
        have b2 : (x == 2) = false := by simp [aliveB] at hax0; simp; omega
        have b3 : (x == 3) = false := by simp [aliveB] at hax0; simp; omega
        have HAX := hid hax0
        clear hax hax0
        go_wp2_with fail
        refine (one_be_no b rb st _ _ hTR HAX.out).mono ?_
        intro e w3 hpost
        obtain ⟨T, y, rfl, hE3, hT3, hK3⟩ := hpost.bad (by decide)
        have hck3 := (hK3.cell (p := ⟨xb, xo + k, none⟩) (lt_of_cell hck) (by simp; omega)).trans hck
        have hK3 := hKR.drop hK3 HX.out
        clear hpost
        go_wp2_with fail
        refine (no_any tabS 0 1 _).mono ?_
        rintro e w5 ⟨u, rfl, hF5, hK5⟩
        have hK5' := hK3.trans hK5
        go_wp2_with fail
        refine (same_one _ u tabS 0 1 _ (HG.out.keeps hK5' (by simp)) (hE3.keeps hK5) hF5 (by omega) (by omega)).mono ?_
        rintro e w6 ⟨rfl, hK6⟩
        have hT6 := (hT3.keeps hK5 (by simp) (by simp)).keeps hK6 (by simp) (by simp)
        have hK6' := hK5'.trans hK6
        go_wp2_with fail
        refine (one_look b rb _ _ hT6).mono ?_
        rintro e w4 ⟨rfl, hK4⟩
        have hT4 := hT6.keeps hK4 (by simp) (by simp)
        have hK4' := hK6'.trans hK4
        have hss : (st != st) = false := by simp
        go_wp2_with fail
        go_roundw
        case rel => exact ⟨k + 1, st, by omega, by omega, by go_num, rfl, HAL.out, hT4.keeps ((Keeps.refl [] w4).alloc _) (by simp) (by simp), hK4'.alloc _⟩
        case measure => simp [intOf]; omega
    · have hcase : k = len ∨ (k < len ∧ k = 50) := by omega
      rcases hcase with hcl | ⟨hl1, hl2⟩
      all_goals
        have hleaf : (decide ((k : Int) < (len : Int)) && decide ((k : Int) < 50)) = false := by simp; omega
        go_wp2_with fail
        refine (one_end b rb st _ hTR HST.out).mono ?_
        rintro e w3 ⟨rfl, hT3, hK3⟩
        have hK3 := hKR.drop hK3 HX.out
        go_wp2_with fail
        refine (over_be b rb _ hT3).mono ?_
        intro e w4 hpost
        obtain ⟨T, y, rfl, hE4, hT4, hK4⟩ := hpost.bad (by decide)
        have hK4 := hK3.drop hK4 HX.out
        clear hpost
        go_wp2_with fail
        refine (no_any tabS 0 8 _).mono ?_
        rintro e w5 ⟨u, rfl, hF5, hK5⟩
        have hK5' := hK4.trans hK5
        go_wp2_with fail
        refine (same_one _ u tabS 0 8 _ (HG.out.keeps hK5' (by simp)) (hE4.keeps hK5) hF5 (by omega) (by omega)).mono ?_
        rintro e w6 ⟨rfl, hK6⟩
        have hT6 := (hT4.keeps hK5 (by simp) (by simp)).keeps hK6 (by simp) (by simp)
        have hK6' := hK5'.trans hK6
        go_wp2_with fail
        refine (over_end b rb _ hT6).mono ?_
        intro e w7 hpost
        obtain ⟨T7, y7, rfl, hE7, hT7, hK7⟩ := hpost.bad (by decide)
        have hK7 := hK6'.drop hK7 HX.out
        clear hpost
        go_wp2_with fail
        refine (no_any tabS 0 8 _).mono ?_
        rintro e w8 ⟨u8, rfl, hF8, hK8⟩
        have hK8' := hK7.trans hK8
        go_wp2_with fail
        refine (same_one _ u8 tabS 0 8 _ (HG.out.keeps hK8' (by simp)) (hE7.keeps hK8) hF8 (by omega) (by omega)).mono ?_
        rintro e w9 ⟨rfl, hK9⟩
        have hT9 := (hT7.keeps hK8 (by simp) (by simp)).keeps hK9 (by simp) (by simp)
        have hK9' := hK8'.trans hK9
        go_wp2_with fail
        refine (over_look b rb _ hT9).mono ?_
        rintro e w10 ⟨rfl, hK10⟩
        have hK10' := (hK9'.trans hK10).alloc (.cells #[.int .u64 64, .int .i64 4, .int .u64 4, .int .u64 6, .int .u64 0, .bool false, .bool true] 48)
        go_wp2_with fail
        refine (awake_any _ (HG.out.keeps hK10' (by simp))).mono ?_
        rintro e w11 ⟨rfl, hK11⟩
        go_wp2_with fail
        go_ret
        exact ⟨rfl, (hK10'.trans hK11).below (Nat.le_refl _) (by simp)⟩
end Go.Proofs.YtghgfopcnaoaiaaDoor
