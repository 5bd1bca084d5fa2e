/-
  AllocPlays: the walk of the statement's own function.
-/
import Derived.Test.YtmciclhifcjoiaaDoorPl2
import Derived.Test.YtmciclhifcjoiaaDoorOpen
import Derived.Deep.Cut
import Derived.Deep.CutRange
import Derived.Deep.CutBlock
import Derived.Deep.DeepCutAuto
namespace Go.Proofs.YtmciclhifcjoiaaDoor
open Go.RowKit

def opKd3 : Nat → IntKind := fun j => [IntKind.i64, IntKind.i64, IntKind.i64, IntKind.i64].getD j .i64

set_option maxRecDepth 100000 in
set_option maxHeartbeats 8000000 in
theorem allocPlays_walk (m n : Int) (a2 : Option Addr) (len cap2 : Nat) (F : Nat → Nat → Int) (w : World) (_w0 : (Lit.int .i64 m).wf = true) (_w1 : (Lit.int .i64 n).wf = true) (w2 : OpsIn opKd3 4 w a2 len cap2 F) (hg : w.cell? ⟨0, 0, none⟩ = some (.iface 137 (.agg #[.pointer (some ⟨1, 24, none⟩)]))) :
    Calls Tryd.prog 12 #[.int .i64 m, .int .i64 n, .slice a2 len cap2] w fun e w' => e = .returned (.bool true) ∧ Below w.heap.size w w' := by
  have HG : Hid (GV w) := hid hg
  have hlen := w2.1
  unfold maxLen at hlen
  have HW := hid w2
  have HZ : Hid (0 < w.heap.size) := hid HG.out.lt
  clear hg w2
  go_enter Tryd.func12, Tryd.ntmps12
  go_wp2_with fail
  refine (within_any m 20 _ (by omega) (by omega)).mono ?_
  rintro e w' ⟨rfl, rfl⟩
  have m0 : 0 ≤ m % 20 := by omega
  have m1 : m % 20 ≤ 20 := by omega
  generalize m % 20 = f at *
  go_wp2_with fail
  refine (within_any n 70 _ (by omega) (by omega)).mono ?_
  rintro e w' ⟨rfl, rfl⟩
  have n0 : 0 ≤ n % 70 := by omega
  have n1 : n % 70 ≤ 70 := by omega
  generalize n % 70 = g at *
  go_wp2_with fail
  refine (new_ok 80 _ (by omega) (by omega)).mono ?_
  rintro e w1 ⟨b, cb, wb, rfl, hM, hK, hb, hcb, hwb⟩
  go_wp2_with fail
  refine (rnew_ok 80 _ (by omega) (by omega)).mono ?_
  rintro e w2 ⟨rb, rwb, rhb, rfl, hR, hK2, hrb, hrwb, hrhb⟩
  go_wp2_with fail
  refine (anew_ok b f (f + g) _ (by omega) (by omega)).mono ?_
  rintro e w3 ⟨rfl, hA, hK3, hs3⟩
  go_wp2_with fail
  refine (ranew_ok rb f (f + g) _ (by omega) (by omega)).mono ?_
  rintro e w4 ⟨rfl, hRA, hK4, hs4⟩
  obtain ⟨hP, hKW⟩ := pair_new m0 (show f ≤ f + g by omega) (by omega) hM hK hb hcb hwb hR hK2 hrb hrwb hrhb hA hK3 hs3 hRA hK4 hs4
  have HP := hid hP
  have HKW := hid hKW
  clear hM hK hb hcb hwb hR hK2 hrb hrwb hrhb hA hK3 hs3 hRA hK4 hs4 hP hKW
  generalize w2.heap.size = ab at *
  generalize w3.heap.size = rab at *
  generalize w4.heap.size = base at *
  clear m0 m1 n0 n1
  go_wp2_with fail
  go_loopw [15] (fun i wr => ∃ k : Nat, k ≤ len ∧ k ≤ 60 ∧ i = .int .i64 k ∧ ∃ lv rlv x s, Pair w.heap.size wr base ab b cb wb rab rb rwb rhb lv rlv x s ∧ Keeps [] w wr) (fun i _ => (60 - (intOf i).toNat))
  case atStart => exact ⟨0, by omega, by omega, rfl, _, _, _, _, HP.out, HKW.out⟩
  case round =>
    obtain ⟨k, hk, hk2, rfl, lv, rlv, x, s, hP, hKR⟩ := hrel
    clear HP HKW
    have HP := hid hP
    have HKR := hid hKR
    clear hP hKR
    by_cases hlt : k < len ∧ k < 60
    · obtain ⟨hl1, hl2⟩ := hlt
      obtain ⟨xb, xo, rfl, hxb, hc⟩ := HW.out.elems (by omega) (by omega)
      have hc : ∀ j, j < 4 → wr.cell? ⟨xb, xo + (k * 4 + j), none⟩ = some (.int (opKd3 j) (F k j)) := fun j hj => (HKR.out.cell (p := ⟨xb, xo + (k * 4 + j), none⟩) hxb (by simp)).trans (hc k hl1 j hj)
      have e0 : wr.cell? ⟨xb, xo + k * 4, none⟩ = some (.int .i64 (F k 0)) := hc 0 (by omega)
      have e1 : wr.cell? ⟨xb, xo + k * 4 + 1, none⟩ = some (.int .i64 (F k 1)) := hc 1 (by omega)
      have e2 : wr.cell? ⟨xb, xo + k * 4 + 2, none⟩ = some (.int .i64 (F k 2)) := hc 2 (by omega)
      have e3 : wr.cell? ⟨xb, xo + k * 4 + 3, none⟩ = some (.int .i64 (F k 3)) := hc 3 (by omega)
      have hf3 := (bounds_i64 (HW.out.wf hl1 (show 3 < 4 by omega))).2
      have HF3 := hid hf3
      clear hc hf3
      go_wp2_with fail
      refine (within_any (F k 3) 80 _ (by omega) (by omega)).mono ?_
      rintro e w' ⟨rfl, rfl⟩
      have HAT : Hid (F k 3 % 80 ≤ 9223372036854775807) := hid (by omega)
      generalize F k 3 % 80 = at_ at *
      obtain ⟨X, hX⟩ : ∃ X, X = wr.heap.size := ⟨_, rfl⟩
      have HB := hid (Blk.fresh_at hX #[.int .i64 (F k 0), .int .i64 (F k 1), .int .i64 (F k 2), .int .i64 (F k 3)] 77)
      have HK0 := hid (HKR.out.alloc (.cells #[.int .i64 (F k 0), .int .i64 (F k 1), .int .i64 (F k 2), .int .i64 (F k 3)] 77))
      have HP0 := hid (HP.out.keeps ((Keeps.refl [] wr).alloc (.cells #[.int .i64 (F k 0), .int .i64 (F k 1), .int .i64 (F k 2), .int .i64 (F k 3)] 77)))
      have HX1 : Hid (X ∉ [ab, b, cb, wb] ++ lv.ownBlock.toList) := hid (by
        intro hm
        have l1 := HP.out.lie.low
        have l2 := HP.out.baseLe
        rcases List.mem_append.1 hm with hm | hm
        · simp at hm; omega
        · have l3 := (World.ownsRow.lt HP.out.alloc.2.2 X (by simpa using hm)).2; omega)
      have HX2 : Hid (X ∉ [rab, rb, rwb, rhb]) := hid (by
        intro hm
        have := HP.out.low2 _ hm
        omega)
      have HX3 : Hid (X ∉ ([] : List Nat)) := hid (by simp)
      have HLW := hid HP.out.lie.lows
      rw [← hX]
      clear e0 e1 e2 e3
      generalize (wr.alloc (.cells #[.int .i64 (F k 0), .int .i64 (F k 1), .int .i64 (F k 2), .int .i64 (F k 3)] 77)) = w0 at *
      clear hX HP HKR
      have HG0 : Hid (GV w0) := hid (HG.out.keeps HK0.out (by simp))
      have HD2 : Hid (∀ z, z ∈ [rab, rb, rwb, rhb] → z < w0.heap.size) := hid HP0.out.low2
      have c0 := HB.out.cell (i := 0) rfl
      go_wp2_with fail
      refine (within_any (F k 0) 5 _ (by omega) (by omega)).mono ?_
      rintro e w' ⟨rfl, rfl⟩
      generalize F k 0 % 5 = dd at *
      clear c0
      go_upto_block 2 with fail
      go_cut [] (fun wx => ∃ lv rlv x s, Pair w.heap.size wx base ab b cb wb rab rb rwb rhb lv rlv x s ∧ Keeps [] w wx)
      case first =>
        by_cases d2 : dd = 2
        · subst d2
          obtain ⟨d, x', s', ho', ht', hg', hp, hq⟩ := put_both base ab b cb wb rab rb rwb rhb lv rlv x s HP0.out.ok HP0.out.til HP0.out.good HLW.out.1 HLW.out.2 (F k 3) HF3.out
          have HPU := hid hp
          have HQU := hid hq
          clear hp hq
          replace HP0 : Hid (Pair w.heap.size w0.drew base ab b cb wb rab rb rwb rhb lv rlv x s) := hid (HP0.out.keeps ((Keeps.refl [] _).drew))
          replace HB : Hid (Blk w0.drew X #[.int .i64 (F k 0), .int .i64 (F k 1), .int .i64 (F k 2), .int .i64 (F k 3)] 77) := hid HB.out
          replace HK0 : Hid (Keeps [] w w0.drew) := hid HK0.out.drew
          replace HG0 : Hid (GV w0.drew) := hid HG0.out
          replace HD2 : Hid (∀ z, z ∈ [rab, rb, rwb, rhb] → z < w0.drew.heap.size) := hid HD2.out
          go_wp2_with fail
          go_region_held3 (fun W => W.cell? ⟨X, 3, none⟩ = some (.int .i64 (F k 3))) (exact HB.out.cell (i := 3) rfl) (first
            | (go_at_call 33; refine (HPU.out _ HP0.out.alloc HP0.out.mem HP0.out.baseLe).mono ?_; rintro e w1 ⟨u, lv1, he1, hE1, hA1, hM1, hK1, hO1⟩; obtain rfl : e = .returned u := he1; replace HB : Hid (Blk w1 X #[.int .i64 (F k 0), .int .i64 (F k 1), .int .i64 (F k 2), .int .i64 (F k 3)] 77) := hid (HB.out.keeps hK1 HX1.out))
            | (go_at_call 40; refine (HQU.out _ (HP0.out.mid hK1).1 (HP0.out.mid hK1).2 (Nat.le_trans HP0.out.baseLe hK1.size)).mono ?_; rintro e w2 ⟨u2, rlv2, he2, hD2, hR2, hF2, hK2, hO2⟩; obtain rfl : e = .returned u2 := he2; replace HB : Hid (Blk w2 X #[.int .i64 (F k 0), .int .i64 (F k 1), .int .i64 (F k 2), .int .i64 (F k 3)] 77) := hid (HB.out.keeps hK2 HX2.out))
            | (go_at_call 15; refine (same_any u u2 d _ (pair_gv HP0.out HG0.out HZ.out hK1 hK2) (hE1 _ _ hK2 HD2.out) hD2).mono ?_; rintro e w3 ⟨rfl, hK3⟩; replace HB : Hid (Blk w3 X #[.int .i64 (F k 0), .int .i64 (F k 1), .int .i64 (F k 2), .int .i64 (F k 3)] 77) := hid (HB.out.keeps hK3 HX3.out)))
          go_wp2_with fail
          go_meet
          case rel => exact pair_step HP0.out HK0.out hg' ho' ht' hA1 hM1 hK1 hR2 hF2 hK2 hK3
        · by_cases d3 : dd = 3
          · subst d3
            obtain ⟨d, s', hg', hp, hq⟩ := map_pq base ab b cb wb rab rb rwb rhb lv rlv x s HP0.out.good HLW.out.1 HLW.out.2 at_ HAT.out
            clear d2
            have HPU := hid hp
            have HQU := hid hq
            clear hp hq
            go_wp2_with fail
            refine (HPU.out _ HP0.out.alloc HP0.out.mem).mono ?_
            rintro e w1 ⟨u, lv1, he1, hE1, hA1, hM1, hK1, hO1⟩
            obtain rfl : e = .returned u := he1
            have HE1 := hid hE1
            have HK1 := hid hK1
            clear hE1 hK1
            go_wp2_with fail
            refine (HQU.out _ (HP0.out.mid HK1.out).1 (HP0.out.mid HK1.out).2).mono ?_
            rintro e w2 ⟨u2, rlv2, he2, hD2, hR2, hF2, hK2, hO2⟩
            obtain rfl : e = .returned u2 := he2
            have HDD := hid hD2
            have HK2 := hid hK2
            clear hD2 hK2
            go_wp2_with fail
            refine (same_any u u2 d _ (pair_gv HP0.out HG0.out HZ.out HK1.out HK2.out) (HE1.out _ _ HK2.out HD2.out) HDD.out).mono ?_
            rintro e w3 ⟨rfl, hK3⟩
            go_wp2_with fail
            go_meet
            case rel => exact pair_step HP0.out HK0.out hg' HP0.out.ok HP0.out.til hA1 hM1 HK1.out hR2 hF2 HK2.out hK3
          · by_cases d4 : dd = 4
            · subst d4
              obtain ⟨d, s', hg', hp, hq⟩ := unmap_pq base ab b cb wb rab rb rwb rhb lv rlv x s HP0.out.good HLW.out.1 HLW.out.2 at_ HAT.out
              clear d2 d3
              have HPU := hid hp
              have HQU := hid hq
              clear hp hq
              go_wp2_with fail
              refine (HPU.out _ HP0.out.alloc HP0.out.mem).mono ?_
              rintro e w1 ⟨u, lv1, he1, hE1, hA1, hM1, hK1, hO1⟩
              obtain rfl : e = .returned u := he1
              have HE1 := hid hE1
              have HK1 := hid hK1
              clear hE1 hK1
              go_wp2_with fail
              refine (HQU.out _ (HP0.out.mid HK1.out).1 (HP0.out.mid HK1.out).2).mono ?_
              rintro e w2 ⟨u2, rlv2, he2, hD2, hR2, hF2, hK2, hO2⟩
              obtain rfl : e = .returned u2 := he2
              have HDD := hid hD2
              have HK2 := hid hK2
              clear hD2 hK2
              go_wp2_with fail
              refine (same_any u u2 d _ (pair_gv HP0.out HG0.out HZ.out HK1.out HK2.out) (HE1.out _ _ HK2.out HD2.out) HDD.out).mono ?_
              rintro e w3 ⟨rfl, hK3⟩
              go_wp2_with fail
              go_meet
              case rel => exact pair_step HP0.out HK0.out hg' HP0.out.ok HP0.out.til hA1 hM1 HK1.out hR2 hF2 HK2.out hK3
            · have b2 : (dd == 2) = false := by simpa using d2
              have b3 : (dd == 3) = false := by simpa using d3
              have b4 : (dd == 4) = false := by simpa using d4
              clear d2 d3 d4
              obtain ⟨p, d, x', s', ho', ht', hg', hp, hq⟩ := get_both base ab b cb wb rab rb rwb rhb lv rlv x s HP0.out.ok HP0.out.til HP0.out.good HLW.out.1 HLW.out.2 (F k 1) (F k 2)
              have HPU := hid hp
              have HQU := hid hq
              clear hp hq
              have c1 := HB.out.cell (i := 1) rfl
              have c2 := HB.out.cell (i := 2) rfl
              have bp : (p != p) = false := by simp
              go_wp2_with fail
              refine (HPU.out _ HP0.out.alloc HP0.out.mem HP0.out.baseLe).mono ?_
              rintro e w1 ⟨u, lv1, he1, hE1, hA1, hM1, hK1, hO1⟩
              obtain rfl : e = .returned (.tuple #[.int .i64 p, u]) := he1
              have HE1 := hid hE1
              have HK1 := hid hK1
              clear c1 c2 hE1 hK1
              replace HB : Hid (Blk w1 X #[.int .i64 (F k 0), .int .i64 (F k 1), .int .i64 (F k 2), .int .i64 (F k 3)] 77) := hid (HB.out.keeps HK1.out HX1.out)
              have c1 := HB.out.cell (i := 1) rfl
              have c2 := HB.out.cell (i := 2) rfl
              go_wp2_with fail
              refine (HQU.out _ (HP0.out.mid HK1.out).1 (HP0.out.mid HK1.out).2 (Nat.le_trans HP0.out.baseLe HK1.out.size)).mono ?_
              rintro e w2 ⟨u2, rlv2, he2, hD2, hR2, hF2, hK2, hO2⟩
              obtain rfl : e = .returned (.tuple #[.int .i64 p, u2]) := he2
              have HDD := hid hD2
              have HK2 := hid hK2
              clear c1 c2 hD2 hK2
              go_wp2_with fail
              refine (same_any u u2 d _ (pair_gv HP0.out HG0.out HZ.out HK1.out HK2.out) (HE1.out _ _ HK2.out HD2.out) HDD.out).mono ?_
              rintro e w3 ⟨rfl, hK3⟩
              go_wp2_with fail
              go_meet
              case rel => exact pair_step HP0.out HK0.out hg' ho' ht' hA1 hM1 HK1.out hR2 hF2 HK2.out hK3
      case rest =>
        obtain ⟨lv5, rlv5, x5, s5, hP5, hK5⟩ := hcut
        have HP5 := hid hP5
        have HK5 := hid hK5
        have HT := hid (fun w' (hK : Keeps [] _ w') => there_any b cb wb s5 w' (HP5.out.keeps hK).mem)
        have HT2 := hid (fun w' (hK : Keeps [] _ w') => rthere_any rb rwb rhb s5 w' (HP5.out.keeps hK).ref)
        have hct := HP5.out.good.count
        rw [hct] at HT
        clear hP5 hK5 hct HP0 HK0 HG0 HB
        generalize ((cnt s5.width : Nat) : Int) = tt at *
        have btt : (tt != tt) = false := by simp
        go_wp2_with fail
        refine (same3_any base ab b base rab rb lv5 rlv5 x5 _ HP5.out.alloc HP5.out.ralloc HP5.out.ok (few_of HP5.out.ok HP5.out.til)).mono ?_
        rintro e w6 ⟨rfl, hK6⟩
        have HK6 := hid hK6
        clear hK6
        go_wp2_with fail
        refine (HT.out _ HK6.out).mono ?_
        rintro e w7 ⟨rfl, rfl⟩
        go_wp2_with fail
        refine (HT2.out _ HK6.out).mono ?_
        rintro e w7 ⟨rfl, rfl⟩
        go_wp2_with fail
        go_roundw
        case rel => exact ⟨k + 1, by omega, by omega, by go_num, _, _, _, _, HP5.out.keeps HK6.out, HK5.out.trans HK6.out⟩
        case measure => simp [intOf]; omega
    · have hcase : k = len ∨ (k < len ∧ k = 60) := by omega
      have HGR : Hid (GV wr) := hid (HG.out.keeps HKR.out (by simp))
      rcases hcase with hcl | ⟨hl1, hl2⟩
      all_goals
        go_wp2_with fail
        refine (awake3_any _ HGR.out).mono ?_
        rintro e w7 ⟨rfl, hK7⟩
        go_wp2_with fail
        go_ret
        exact ⟨rfl, (HKR.out.trans hK7).below (Nat.le_refl _) (by simp)⟩
end Go.Proofs.YtmciclhifcjoiaaDoor
