/-
  MemGone: the walk of the statement's own function.
-/
import Derived.Test.YtmciclhifcjoiaaDoorMem5
import Derived.Test.YtmciclhifcjoiaaDoorRowIn
import Derived.Test.YtmciclhifcjoiaaDoorWords
namespace Go.Proofs.YtmciclhifcjoiaaDoor
open Go.RowKit

/-- 32 wide cells, v in the first i of them. -/
def allv (v : Int) (i : Nat) : MS := ⟨List.replicate 32 64, fill (List.replicate 32 0) 0 v i, 32, i⟩
/-- q cells from p on are gone; are back, narrow, behind c accesses. -/
def gone2 (v : Int) (p q : Nat) : MS := (allv v 32).unmap p q
def gone3 (v : Int) (p q : Nat) (c : Int) : MS := { (gone2 v p q).map p q 32 with count := c }

theorem rep_get (n : Nat) (v : Int) (j : Nat) (h : j < n) : (List.replicate n v).getD j 0 = v := by
  simp [List.getD, h]

theorem allv_zero (v : Int) : MS.full 32 = allv v 0 := rfl
theorem allv_put (v : Int) (i : Nat) (h : i < 32) : (allv v i).put (i : Int).toNat (cutI ((allv v i).width.getD (i : Int).toNat 0) v) = allv v (i + 1) := by
  have e1 : (allv v i).width.getD (i : Int).toNat 0 = 64 := rep_get 32 64 i h
  rw [e1, cut64']
  have e2 : wrap64 ((i : Int) + 1) = ((i + 1 : Nat) : Int) := by unfold wrap64; omega
  unfold MS.put allv
  simp only [e2, fill, Int.toNat_natCast, Nat.zero_add]

theorem gone2_there (v : Int) (p q : Nat) (h : q ≤ 32) : (gone2 v p q).there = 32 - (q : Int) := by
  show wrap64 (32 - (q : Int)) = 32 - (q : Int)
  unfold wrap64; omega
theorem gone2_len (v : Int) (p q : Nat) : (gone2 v p q).width.length = 32 := by
  show (fill (List.replicate 32 64) (p : Int).toNat 0 (q : Int).toNat).length = 32
  rw [fill_length]; simp
theorem gone2_width (v : Int) (p q j : Nat) (h1 : p + q ≤ 32) (h2 : p ≤ j) (h3 : j < p + q) : (gone2 v p q).width.getD j 0 = 0 := by
  show (fill (List.replicate 32 64) (p : Int).toNat 0 (q : Int).toNat).getD j 0 = 0
  rw [fill_get, if_pos (by simp; omega)]
theorem gone3_width (v : Int) (p q j : Nat) (c : Int) (h : j < 32) : (gone3 v p q c).width.getD j 0 ≠ 0 := by
  have e : (gone3 v p q c).width = fill (fill (List.replicate 32 64) (p : Int).toNat 0 (q : Int).toNat) (p : Int).toNat 32 (q : Int).toNat := by
    simp only [gone3, gone2, MS.map, MS.unmap, MS.part, allv]
  rw [e]
  clear e
  rw [fill_get, fill_get]
  simp only [Int.toNat_natCast, fill_length, List.length_replicate]
  by_cases hin : p ≤ j ∧ j < p + q ∧ j < 32
  · rw [if_pos hin]; omega
  · rw [if_neg hin, if_neg hin, rep_get 32 64 j h]; omega
theorem gone3_hold (v : Int) (p q j : Nat) (c : Int) (h : j < 32) : (gone3 v p q c).hold.getD j 0 = if p ≤ j ∧ j < p + q then 0 else v := by
  have e : (gone3 v p q c).hold = fill (fill (fill (List.replicate 32 0) 0 v 32) (p : Int).toNat 0 (q : Int).toNat) (p : Int).toNat 0 (q : Int).toNat := by
    simp only [gone3, gone2, MS.map, MS.unmap, MS.part, allv]
  rw [e]
  clear e
  rw [fill_get, fill_get, fill_get]
  simp only [Int.toNat_natCast, fill_length, List.length_replicate]
  by_cases hin : p ≤ j ∧ j < p + q
  · rw [if_pos (by omega), if_pos hin]
  · rw [if_neg (by omega), if_neg (by omega), if_neg hin, if_pos (by omega)]

section
variable (b cb wb p q : Nat) (v : Int) (w : World)
theorem gone_store (i : Nat) (hM : MemAt w b cb wb (allv v i)) (h : i < 32) : Calls Tryd.prog 24 #[.pointer (some ⟨b, 0, none⟩), .int .u64 (i : Int), .int .u64 v] w fun e w' =>
    e = .returned .nilIface ∧ MemAt w' b cb wb (allv v (i + 1)) ∧ Keeps [b, cb] w w' := by
  have e1 : (allv v i).width.getD (i : Int).toNat 0 = 64 := rep_get 32 64 i h
  have k := store_ok b cb wb (allv v i) (i : Int) v w hM (by omega) (by rw [e1]; omega)
  rw [allv_put v i h] at k
  exact k
theorem gone_unmap (hM : MemAt w b cb wb (allv v 32)) (h0 : 1 ≤ q) (h1 : p + q ≤ 32) : Calls Tryd.prog 25 #[.pointer (some ⟨b, 0, none⟩), .int .i64 (p : Int), .int .i64 (q : Int)] w fun e w' =>
    e = .returned .nilIface ∧ MemAt w' b cb wb (gone2 v p q) ∧ Keeps [b, cb, wb] w w' :=
  unmap_ok b cb wb (allv v 32) (p : Int) (q : Int) w hM (by omega) (by omega) (by show (p : Int) + q ≤ ((List.replicate 32 (64 : Int)).length : Int); simp; omega) (by
    intro i hi
    have e : (allv v 32).width.getD ((p : Int).toNat + i) 0 = 64 := rep_get 32 64 _ (by simp at hi ⊢; omega)
    rw [e]; rfl)
theorem gone_map (hM : MemAt w b cb wb (gone2 v p q)) (h0 : 1 ≤ q) (h1 : p + q ≤ 32) : Calls Tryd.prog 20 #[.pointer (some ⟨b, 0, none⟩), .int .i64 (p : Int), .int .i64 (q : Int), .int .i64 32] w fun e w' =>
    e = .returned .nilIface ∧ MemAt w' b cb wb (gone3 v p q 32) ∧ Keeps [b, cb, wb] w w' :=
  map_ok b cb wb (gone2 v p q) (p : Int) (q : Int) w hM (by omega) (by omega) (by rw [gone2_len]; omega) 32 (.inl rfl) (by
    intro i hi
    have e : (gone2 v p q).width.getD ((p : Int).toNat + i) 0 = 0 := gone2_width v p q _ h1 (by simp) (by simp at hi ⊢; omega)
    rw [e]; rfl)
theorem gone_load (j : Nat) (c x : Int) (hx : (gone3 v p q c).hold.getD j 0 = x) (hM : MemAt w b cb wb (gone3 v p q c)) (h : j < 32) : Calls Tryd.prog 26 #[.pointer (some ⟨b, 0, none⟩), .int .u64 (j : Int)] w fun e w' =>
    e = .returned (.tuple #[.int .u64 x, .nilIface]) ∧ MemAt w' b cb wb (gone3 v p q (wrap64 (c + 1))) ∧ Keeps [b, cb] w w' :=
  hx ▸ load_ok b cb wb (gone3 v p q c) (j : Int) w hM (by omega) (gone3_width v p q j c h)
end

set_option maxRecDepth 100000 in
set_option maxHeartbeats 4000000 in
theorem memGone_walk (a n v : Int) (w : World) (_w0 : (Lit.int .i64 a).wf = true) (_w1 : (Lit.int .i64 n).wf = true) (_w2 : (Lit.int .u64 v).wf = true) (hg : w.cell? ⟨0, 0, none⟩ = some (.iface 137 (.agg #[.pointer (some ⟨1, 24, none⟩)]))) :
    Calls Tryd.prog 4 #[.int .i64 a, .int .i64 n, .int .u64 v] w fun e w' => e = .returned (.bool true) ∧ Below w.heap.size w w' := by
  have HG : Hid (GV w) := hid hg
  obtain ⟨p, hp, hp32⟩ : ∃ p : Nat, a % 32 = (p : Int) ∧ p < 32 := ⟨(a % 32).toNat, by omega, by omega⟩
  obtain ⟨r, hr, hr32⟩ : ∃ r : Nat, n % (32 - (p : Int)) = (r : Int) ∧ (r : Int) < 32 - p := ⟨(n % (32 - (p : Int))).toNat, by have := Int.emod_nonneg n (show 32 - (p : Int) ≠ 0 by omega); omega, by have := Int.emod_lt_of_pos n (show 0 < 32 - (p : Int) by omega); have := Int.emod_nonneg n (show 32 - (p : Int) ≠ 0 by omega); omega⟩
  have HP := hid hp
  have HR := hid hr
  clear hg hp hr
  go_enter Tryd.func4, Tryd.ntmps4
  go_wp2_with fail
  refine (full_any 32 _ (by omega) (by omega)).mono ?_
  rintro e w1 ⟨b, cb, wb, rfl, hM, hK, hb, hcb, hwb⟩
  rw [allv_zero v] at hM
  have hx2 : ∀ x, x ∈ [b, cb] → x ∈ ([] : List Nat) ∨ w.heap.size ≤ x := by intro x hx; simp at hx; omega
  have hx3 : ∀ x, x ∈ [b, cb, wb] → x ∈ ([] : List Nat) ∨ w.heap.size ≤ x := by intro x hx; simp at hx; omega
  have HX2 := hid hx2
  have HX3 := hid hx3
  clear hx2 hx3
  go_wp2_with fail
  refine (within_any a 32 _ (by omega) (by omega)).mono ?_
  rintro e w' ⟨rfl, rfl⟩
  rw [HP.out]
  go_wp2_with fail
  refine (within_any n (32 - (p : Int)) _ (by omega) (by omega)).mono ?_
  rintro e w' ⟨rfl, rfl⟩
  rw [HR.out]
  go_wp2_with fail
  obtain ⟨q, hq⟩ : ∃ q : Nat, q = 1 + r := ⟨_, rfl⟩
  have hq2 : (1 + (r : Int)) = (q : Int) := by omega
  have hq1 : 1 ≤ q := by omega
  have hpq : p + q ≤ 32 := by omega
  rw [hq2]
  clear hq hq2 hr32 HR
  go_loopw [8] (fun i wr => ∃ k : Nat, k ≤ 32 ∧ i = .int .u64 k ∧ MemAt wr b cb wb (allv v k) ∧ Keeps [] w wr) (fun i _ => (32 - (intOf i).toNat))
  case atStart => exact ⟨0, by omega, rfl, hM, hK⟩
  case round =>
    obtain ⟨k, hk, rfl, hMR, hKR⟩ := hrel
    by_cases hlt : k < 32
    · go_wp2_with fail
      refine (gone_store b cb wb v _ k hMR hlt).mono ?_
      rintro e w2 ⟨rfl, hM2, hK2⟩
      go_wp2_with fail
      go_roundw
      case rel => exact ⟨k + 1, by omega, by go_num, hM2, hKR.drop hK2 HX2.out⟩
      case measure => simp [intOf]; omega
    · obtain rfl : k = 32 := by omega
      go_wp2_with fail
      refine (gone_unmap b cb wb p q v _ hMR hq1 hpq).mono ?_
      rintro e w2 ⟨rfl, hM2, hK2⟩
      have hK2 := hKR.drop hK2 HX3.out
      go_wp2_with fail
      refine (there_any b cb wb _ _ hM2).mono ?_
      rintro e w' ⟨rfl, rfl⟩
      rw [gone2_there v p q (by omega)]
      have hsame : ((32 - (q : Int)) != (32 - (q : Int))) = false := by simp
      go_wp2_with fail
      refine (width_any b cb wb _ (p : Int) _ hM2 (by omega)).mono ?_
      rintro e w' ⟨rfl, rfl⟩
      have ew : (gone2 v p q).width.getD (p : Int).toNat 0 = 0 := gone2_width v p q p hpq (by omega) (by omega)
      rw [ew]
      go_wp2_with fail
      refine (load_no b cb wb _ (p : Int) _ hM2 (by omega) ew).mono ?_
      have ep : placeI (p : Int) = p := by unfold placeI; rw [if_pos (by omega)]
      rw [ep]
      rintro e w3 ⟨rfl, rfl⟩
      have hE := ErrAt.fresh w2 memS (p : Int) 2
      have hK3 := hK2.alloc (.cells #[.string memS, .int .i64 (p : Int), .iface 30 (.int .i64 2)] 97)
      have hM3 := hM2.alloc (.cells #[.string memS, .int .i64 (p : Int), .iface 30 (.int .i64 2)] 97)
      generalize (w2.alloc (.cells #[.string memS, .int .i64 (p : Int), .iface 30 (.int .i64 2)] 97)) = w3 at *
      clear hM2 ew ep
      go_wp2_with fail
      refine (no_any memS (p : Int) 2 _).mono ?_
      rintro e w4 ⟨u, rfl, hF4, hK4⟩
      have hK4' := hK3.trans hK4
      have hM4 := hM3.keeps hK4 (by simp) (by simp) (by simp)
      go_wp2_with fail
      refine (same_one _ u memS (p : Int) 2 _ (HG.out.keeps hK4' (by simp)) (hE.keeps hK4) hF4 (by omega) (by omega)).mono ?_
      rintro e w5 ⟨rfl, hK5⟩
      have hK5' := hK4'.trans hK5
      have hM5 := hM4.keeps hK5 (by simp) (by simp) (by simp)
      go_wp2_with fail
      refine (gone_map b cb wb p q v _ hM5 hq1 hpq).mono ?_
      rintro e w6 ⟨rfl, hM6, hK6⟩
      have hK6 := hK5'.drop hK6 HX3.out
      clear hM5 hM4 hM3 hE hF4 hK5 hK4 hK3
      go_wp2_with fail
      go_loopw [11] (fun i wr => ∃ (k : Nat) (c : Int), k ≤ 32 ∧ i = .int .i64 k ∧ MemAt wr b cb wb (gone3 v p q c) ∧ Keeps [] w wr) (fun i _ => (32 - (intOf i).toNat))
      case atStart => exact ⟨0, 32, by omega, rfl, hM6, hK6⟩
      case round =>
        obtain ⟨k, c, hk, rfl, hMR, hKR⟩ := hrel
        by_cases hlt : k < 32
        · have hh := gone3_hold v p q k c hlt
          by_cases h1 : p ≤ k
          · have b1 : decide ((p : Int) ≤ (k : Int)) = true := by simp; omega
            by_cases h2 : k < p + q
            · have b2 : decide ((k : Int) < (p : Int) + (q : Int)) = true := by simp; omega
              rw [if_pos ⟨h1, h2⟩] at hh
              have HH := hid hh
              clear hh
              go_wp2_with fail
              refine (gone_load b cb wb p q v _ k c 0 HH.out hMR hlt).mono ?_
              rintro e w7 ⟨rfl, hM7, hK7⟩
              go_wp2_with fail
              go_roundw
              case rel => exact ⟨k + 1, _, by omega, by go_num, hM7, hKR.drop hK7 HX2.out⟩
              case measure => simp [intOf]; omega
            · have b2 : decide ((k : Int) < (p : Int) + (q : Int)) = false := by simp; omega
              rw [if_neg (by omega)] at hh
              have HH := hid hh
              have hvv : (v != v) = false := by simp
              clear hh
              go_wp2_with fail
              refine (gone_load b cb wb p q v _ k c v HH.out hMR hlt).mono ?_
              rintro e w7 ⟨rfl, hM7, hK7⟩
              go_wp2_with fail
              go_roundw
              case rel => exact ⟨k + 1, _, by omega, by go_num, hM7, hKR.drop hK7 HX2.out⟩
              case measure => simp [intOf]; omega
          · have b1 : decide ((p : Int) ≤ (k : Int)) = false := by simp; omega
            rw [if_neg (by omega)] at hh
            have HH := hid hh
            have hvv : (v != v) = false := by simp
            clear hh
            go_wp2_with fail
            refine (gone_load b cb wb p q v _ k c v HH.out hMR hlt).mono ?_
            rintro e w7 ⟨rfl, hM7, hK7⟩
            go_wp2_with fail
            go_roundw
            case rel => exact ⟨k + 1, _, by omega, by go_num, hM7, hKR.drop hK7 HX2.out⟩
            case measure => simp [intOf]; omega
        · obtain rfl : k = 32 := by omega
          go_wp2_with fail
          refine (awake_any _).mono ?_
          rintro e w7 ⟨rfl, hK7⟩
          go_wp2_with fail
          go_ret
          exact ⟨rfl, (hKR.trans hK7).below (Nat.le_refl _) (by simp)⟩
end Go.Proofs.YtmciclhifcjoiaaDoor
