/-
  AllocFills: the walk of the statement's own function.
-/
import Derived.Test.YtmciclhifcjoiaaDoorAllocNewsWalk
namespace Go.Proofs.YtmciclhifcjoiaaDoor
open Go.RowKit

/-- k blocks of q cells, one behind the other. -/
def fillL (q : Nat) : Nat → List Bk
  | 0 => []
  | k + 1 => fillL q k ++ [⟨(k : Int) * q, q, 64⟩]

theorem fillL_length (q : Nat) : ∀ k, (fillL q k).length = k
  | 0 => rfl
  | k + 1 => by simp [fillL, fillL_length q k]
theorem fillL_get (q : Nat) : ∀ k i, i < k → (fillL q k)[i]? = some ⟨(i : Int) * q, q, 64⟩
  | 0, i, h => by omega
  | k + 1, i, h => by
    unfold fillL
    rcases Nat.lt_or_ge i k with h1 | h1
    · rw [List.getElem?_append_left (by rw [fillL_length]; exact h1)]
      exact fillL_get q k i h1
    · obtain rfl : i = k := by omega
      rw [List.getElem?_append_right (by rw [fillL_length]; exact Nat.le_refl _), fillL_length, Nat.sub_self]
      rfl
theorem fillL_used (q : Nat) : ∀ k, used (fillL q k) = (k : Int) * q
  | 0 => by simp [fillL, used]
  | k + 1 => by
    unfold fillL
    rw [used_snoc, fillL_used q k]
    show (k : Int) * q + q = ((k + 1 : Nat) : Int) * q
    rw [Int.natCast_add, Int.add_mul]
    simp
theorem fillL_end (q k i : Nat) (h : i ≤ k) : endOf 0 (fillL q k) i = (i : Int) * q := by
  cases i with
  | zero => simp [endOf]
  | succ j =>
    have e := fillL_get q k j (by omega)
    have e2 : (fillL q k).getD j bk0 = ⟨(j : Int) * q, q, 64⟩ := by simp [List.getD, e]
    show ((fillL q k).getD j bk0).pos + ((fillL q k).getD j bk0).n = _
    rw [e2]
    show (j : Int) * q + q = ((j + 1 : Nat) : Int) * q
    rw [Int.natCast_add, Int.add_mul]
    simp
theorem fillL_gap (q k i : Nat) (h : i < k) : gapOf 0 (fillL q k) 100 i = 0 := by
  have e := fillL_get q k i h
  have e2 : (fillL q k).getD i bk0 = ⟨(i : Int) * q, q, 64⟩ := by simp [List.getD, e]
  unfold gapOf startOf
  rw [fillL_end q k i (by omega), fillL_length, if_neg (by omega), e2]
  show (i : Int) * q - (i : Int) * q = 0
  omega
theorem fillL_last (q k : Nat) : gapOf 0 (fillL q k) 100 k = 100 - (k : Int) * q := by
  unfold gapOf startOf
  rw [fillL_end q k k (Nat.le_refl _), fillL_length, if_pos rfl]
theorem fillL_widest (q k : Nat) (h : (k : Int) * q ≤ 100) : widest ⟨0, 100, fillL q k⟩ (k + 1) = 100 - (k : Int) * q := by
  have key : ∀ m, m ≤ k → widest ⟨0, 100, fillL q k⟩ m = 0 := by
    intro m
    induction m with
    | zero => intro _; rfl
    | succ m ih =>
      intro hm
      have e1 := ih (by omega)
      have e2 := fillL_gap q k m (by omega)
      unfold widest
      show max (widest ⟨0, 100, fillL q k⟩ m) (gapOf 0 (fillL q k) 100 m) = 0
      rw [e1, e2]
      rfl
  show max (widest ⟨0, 100, fillL q k⟩ k) (gapOf 0 (fillL q k) 100 k) = _
  rw [key k (Nat.le_refl _), fillL_last]
  omega

/-- Get, where k blocks lie one behind the other. -/
theorem fill_get_yes {B : Nat} {w w' : World} {base ab b cb wb q k : Nat} {lv : Value} {s : MS} {e : Ending} (hq : 1 ≤ q) (hq2 : q ≤ 50) (hk : ((k : Int) + 1) * q ≤ 100) (h : RoomGet B w base ab b cb wb 100 lv ⟨0, 100, fillL q k⟩ s q 64 e w') :
    e = .returned (.tuple #[.int .i64 ((k : Int) * q), .nilIface]) ∧ ∃ lv' s', Room B w' base ab b cb wb 100 lv' ⟨0, 100, fillL q (k + 1)⟩ s' ∧ Keeps ([ab, b, cb, wb] ++ lv.ownBlock.toList) w w' := by
  rw [Int.add_mul, Int.one_mul] at hk
  obtain ⟨at_, u, lv', x', s', rfl, q1, q2, q3, ⟨_, _, _, _, h1 | h1⟩ | ⟨rfl, i, hi, _, _, hg, hb, rfl, rfl, rfl⟩⟩ := h
  · omega
  · have h2 := h1.1 k (by show k ≤ (fillL q k).length; rw [fillL_length]; exact Nat.le_refl _)
    have h2 : gapOf 0 (fillL q k) 100 k < (q : Int) := h2
    rw [fillL_last] at h2
    omega
  · have hi : i ≤ (fillL q k).length := hi
    rw [fillL_length] at hi
    have hg : (q : Int) ≤ gapOf 0 (fillL q k) 100 i := hg
    rcases Nat.lt_or_ge i k with h2 | h2
    · rw [fillL_gap q k i h2] at hg
      omega
    · obtain rfl : i = k := by omega
      have e1 := fillL_end q i i (Nat.le_refl _)
      have e2 : (({ fr := 0, til := 100, l := fillL q i } : AS).ins i ⟨endOf 0 (fillL q i) i, q, 64⟩) = ⟨0, 100, fillL q (i + 1)⟩ := by
        unfold AS.ins
        show ({ fr := 0, til := 100, l := (fillL q i).take i ++ (⟨endOf 0 (fillL q i) i, q, 64⟩ :: (fillL q i).drop i) } : AS) = _
        rw [List.take_of_length_le (by rw [fillL_length]; exact Nat.le_refl _), List.drop_eq_nil_of_le (by rw [fillL_length]; exact Nat.le_refl _), e1]
        rfl
      refine ⟨?_, lv', s.map (endOf 0 (fillL q i) i) q 64, ?_, q2⟩
      · show Ending.returned (.tuple #[.int .i64 (endOf 0 (fillL q i) i), .nilIface]) = _
        rw [e1]
      · have q1 : Room B w' base ab b cb wb 100 lv' (({ fr := 0, til := 100, l := fillL q i } : AS).ins i ⟨endOf 0 (fillL q i) i, q, 64⟩) (s.map (endOf 0 (fillL q i) i) q 64) := q1
        rw [e2] at q1
        exact q1
theorem fill_get_no {B : Nat} {w w' : World} {base ab b cb wb q k : Nat} {lv : Value} {s : MS} {e : Ending} (hq : 1 ≤ q) (hq2 : q ≤ 50) (hk : 100 - (k : Int) * q < q) (h : RoomGet B w base ab b cb wb 100 lv ⟨0, 100, fillL q k⟩ s q 64 e w') :
    ∃ u, e = .returned (.tuple #[.int .i64 0, u]) ∧ ErrNew w w' u [(allocS, 0)] 3 ∧ ∃ s', Room B w' base ab b cb wb 100 lv ⟨0, 100, fillL q k⟩ s' ∧ Keeps ([ab, b, cb, wb] ++ lv.ownBlock.toList) w w' := by
  obtain ⟨at_, u, lv', x', s', rfl, q1, q2, q3, ⟨rfl, rfl, rfl, rfl, h1 | h1⟩ | ⟨rfl, i, hi, _, _, hg, hb, rfl, rfl, rfl⟩⟩ := h
  · omega
  · exact ⟨u, rfl, h1.2, _, q1, q2⟩
  · have hi : i ≤ (fillL q k).length := hi
    rw [fillL_length] at hi
    have hg : (q : Int) ≤ gapOf 0 (fillL q k) 100 i := hg
    rcases Nat.lt_or_ge i k with h2 | h2
    · rw [fillL_gap q k i h2] at hg
      omega
    · obtain rfl : i = k := by omega
      rw [fillL_last] at hg
      omega

set_option maxRecDepth 100000 in
set_option maxHeartbeats 4000000 in
theorem allocFills_walk (v : Int) (w : World) (_w0 : (Lit.int .i64 v).wf = true)
    (hg : w.cell? ⟨0, 0, none⟩ = some (.iface 137 (.agg #[.pointer (some ⟨1, 24, none⟩)]))) :
    Calls Tryd.prog 11 #[.int .i64 v] w fun e w' => e = .returned (.bool true) ∧ Below w.heap.size w w' := by
  have HG : Hid (GV w) := hid hg
  obtain ⟨r, hr, hr50⟩ := within_nat v 50 (by omega)
  have HQ := hid hr
  clear hg hr
  obtain ⟨q, hq⟩ : ∃ q : Nat, q = 1 + r := ⟨_, rfl⟩
  have hq1 : 1 ≤ q := by omega
  have hq2 : q ≤ 50 := by omega
  have HMM : Hid (1 + (r : Int) = (q : Int)) := hid (by omega)
  obtain ⟨D, hD⟩ : ∃ D : Nat, D = 100 / q := ⟨_, rfl⟩
  have hdm : q * D + 100 % q = 100 := by rw [hD]; exact Nat.div_add_mod 100 q
  have hml : 100 % q < q := Nat.mod_lt _ (by omega)
  have HT : Hid ((100 : Int).tdiv (q : Int) = (D : Int)) := hid (by rw [hD]; rfl)
  have HR : Hid ((100 : Int).tmod (q : Int) = 100 - (D : Int) * q) := hid (by
    have e : (100 : Int).tmod (q : Int) = ((100 % q : Nat) : Int) := rfl
    rw [e, Int.mul_comm]
    have : ((q * D : Nat) : Int) = (q : Int) * D := by simp
    omega)
  have hDq : (D : Int) * q ≤ 100 := by
    have : ((q * D : Nat) : Int) = (D : Int) * q := by rw [Int.mul_comm]; simp
    omega
  have hDq2 : 100 - (D : Int) * q < q := by
    have : ((q * D : Nat) : Int) = (D : Int) * q := by rw [Int.mul_comm]; simp
    omega
  have hD100 : D ≤ 100 := by rw [hD]; exact Nat.div_le_self _ _
  have hmono : ∀ k : Nat, k < D → ((k : Int) + 1) * q ≤ 100 := fun k hk => Int.le_trans (Int.mul_le_mul_of_nonneg_right (by omega) (by omega)) hDq
  have HMO := hid hmono
  have HD2 := hid hDq2
  have HD1 := hid hDq
  have hqz : ((q : Int) == 0) = false := by simp; omega
  clear hq hD hdm hml hDq hDq2 hmono
  go_enter Tryd.func11, Tryd.ntmps11
  go_wp2_with fail
  refine (within_any v 50 _ (by omega) (by omega)).mono ?_
  rintro e w' ⟨rfl, rfl⟩
  rw [show v % 50 = (r : Int) from HQ.out]
  go_wp2_with fail
  rw [HMM.out]
  refine (room_any w).mono ?_
  rintro e w1 ⟨base, ab, b, cb, wb, rfl, hR, hK⟩
  have HR1 := hid hR
  have HK := hid hK
  clear hR hK
  go_wp2_with fail
  go_loopw [5] (fun i wr => ∃ (k : Nat) (lv : Value) (s : MS), k ≤ D ∧ i = .int .i64 k ∧ Hid (Room w.heap.size wr base ab b cb wb 100 lv ⟨0, 100, fillL q k⟩ s) ∧ Hid (Keeps [] w wr)) (fun i _ => (D - (intOf i).toNat))
  case atStart => exact ⟨0, _, _, by omega, rfl, HR1, HK⟩
  case round =>
    obtain ⟨k, lv, s, hk, rfl, HRR, HKR⟩ := hrel
    have ht := HT.out
    by_cases hlt : k < D
    · have hk1 := HMO.out k hlt
      have HK1 := hid hk1
      rw [Int.add_mul, Int.one_mul] at hk1
      have hk0 : 0 ≤ (k : Int) * q := Int.mul_nonneg (by omega) (by omega)
      have hk2 : (k : Int) * q ≤ 100 := by omega
      have hkk : (((k : Int) * q) != ((k : Int) * q)) = false := by simp
      go_wp2_with fail
      refine (room_get HRR.out _ 64).mono ?_
      intro e w2 h
      obtain ⟨rfl, lv2, s2, hR2, hK2⟩ := fill_get_yes hq1 hq2 HK1.out h
      have HK2 := hid (HKR.out.drop hK2 (fun z hz => Or.inr (HRR.out.own z hz).1))
      have HR2 := hid hR2
      clear h hR2 hK2 hk1
      go_wp2_with fail
      go_roundw
      case rel => exact ⟨k + 1, lv2, s2, by omega, by go_num, HR2, HK2⟩
      case measure => simp [intOf]; omega
    · obtain rfl : k = D := by omega
      go_wp2_with fail
      refine (room_get HRR.out _ 64).mono ?_
      intro e w2 h
      obtain ⟨u, rfl, hE, s2, hR2, hK2⟩ := fill_get_no hq1 hq2 HD2.out h
      have HK2 := hid (HKR.out.drop hK2 (fun z hz => Or.inr (HRR.out.own z hz).1))
      have HR2 := hid hR2
      obtain ⟨⟨T, y, rfl⟩, hE⟩ := hE
      have HE := hid (hE [] w2 (Keeps.refl _ _) (by simp))
      have hU := fillL_used q k
      have hW := fillL_widest q k HD1.out
      have hm := HR.out
      have hk0 : 0 ≤ (k : Int) * q := Int.mul_nonneg (by omega) (by omega)
      have hk2 := HD1.out
      clear h hR2 hK2 hE
      go_wp2_with fail
      have HS1 : Hid ([(allocS, (0 : Int))].length ≤ 1000) := hid (by simp)
      have HS2 : Hid ((1 : Int) ≤ 3) := hid (by omega)
      have HS3 : Hid ((3 : Int) ≤ 10) := hid (by omega)
      have HKd : Hid (Keeps [] w w2.drew) := hid HK2.out.drew
      have HGK := hid (fun (w' : World) (h : Keeps [] w2.drew w') => HG.out.keeps (HKd.out.trans h) (by simp))
      have HEK := hid (fun (w' : World) (h : Keeps [] w2.drew w') => ErrAt.keeps (((Keeps.refl [] w2).drew).trans h) HE.out)
      have HUC := hid (fun (w' : World) (h : Keeps [] w2.drew w') => used_any base ab b lv ⟨0, 100, fillL q k⟩ w' ((HR2.out.keeps (((Keeps.refl [] w2).drew).trans h)).alloc) HR2.out.inv.ok)
      have HWC := hid (fun (w' : World) (h : Keeps [] w2.drew w') => widest_any base ab b lv ⟨0, 100, fillL q k⟩ w' ((HR2.out.keeps (((Keeps.refl [] w2).drew).trans h)).alloc) HR2.out.inv.ok)
      have hlenq : (({ fr := 0, til := 100, l := fillL q k } : AS).l.length) = k := fillL_length q k
      rw [show used ({ fr := 0, til := 100, l := fillL q k } : AS).l = (k : Int) * q from hU] at HUC
      rw [hlenq, hW] at HWC
      have hwr : IntKind.i64.wrap ((k : Int) * q) = (k : Int) * q := by rw [IntKind.wrap_i64]; omega
      have hwk : IntKind.i64.wrap (k : Int) = (k : Int) := by rw [IntKind.wrap_i64]; omega
      have hq0 : ¬ q = 0 := by omega
      have hq0' : ¬ (q : Int) = 0 := by omega
      have hqq : (((k : Int) * q) == ((k : Int) * q)) = true := by simp
      have hrr : ((100 - (k : Int) * q) == (100 - (k : Int) * q)) = true := by simp
      clear hU hW hlenq
      go_region_held3 (fun _ => True) (trivial) (first
        | (go_at_call 16; refine (no_any allocS 0 3 _).mono ?_; rintro e w3 ⟨u3, rfl, hF3, hK3⟩)
        | (go_at_call 15; refine (same_some _ u3 [(allocS, 0)] 3 _ (HGK.out _ hK3) (HEK.out _ hK3) hF3 HS1.out HS2.out HS3.out).mono ?_; rintro e w4 ⟨rfl, hK4⟩; replace hK4 := hK3.trans hK4)
        | (go_at_call 38; refine (HUC.out _ hK4).mono ?_; rintro e w5 ⟨rfl, hK5⟩; replace hK5 := hK4.trans hK5)
        | (go_at_call 34; refine (HWC.out _ hK5).mono ?_; rintro e w6 ⟨rfl, hK6⟩; replace hK6 := hK5.trans hK6)
        | (go_at_call 35; refine (awake3_any _ (HGK.out _ hK6)).mono ?_; rintro e w7 ⟨rfl, hK7⟩; replace hK7 := hK6.trans hK7))
      go_wp2_with fail
      go_ret
      exact ⟨rfl, (HKd.out.trans hK7).below (Nat.le_refl _) (by simp)⟩
end Go.Proofs.YtmciclhifcjoiaaDoor
