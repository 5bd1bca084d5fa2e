/-
  AllocFinds: the walk of the statement's own function.
-/
import Derived.Test.YtmciclhifcjoiaaDoorLaw03
import Derived.Test.YtmciclhifcjoiaaDoorOpen
namespace Go.Proofs.YtmciclhifcjoiaaDoor
open Go.RowKit

theorem room_get_l {B : Nat} {w w' : World} {base ab b cb wb N : Nat} {lv : Value} {f t : Int} {l : List Bk} {s : MS} {n wd : Int} {e : Ending} (hR : Room B w base ab b cb wb N lv ⟨f, t, l⟩ s) (h : RoomGet B w base ab b cb wb N lv ⟨f, t, l⟩ s n wd e w') :
    ∃ (at_ : Int) (u lv' : Value) (l' : List Bk) (s' : MS), e = .returned (.tuple #[.int .i64 at_, u]) ∧ Room B w' base ab b cb wb N lv' ⟨f, t, l'⟩ s' ∧ ∀ w0 : World, w0.heap.size = B → Keeps [] w0 w → Keeps [] w0 w' := by
  obtain ⟨at_, u, lv', x', s', he, q1, q2, _, hcase⟩ := h
  have hk : ∀ w0 : World, w0.heap.size = B → Keeps [] w0 w → Keeps [] w0 w' := fun w0 h0 hK => hK.drop q2 (fun z hz => Or.inr (by rw [h0]; exact (hR.own z hz).1))
  rcases hcase with ⟨_, _, rfl, _⟩ | ⟨_, i, _, _, _, _, _, _, rfl, _⟩
  · exact ⟨at_, u, lv', _, s', he, q1, hk⟩
  · exact ⟨at_, u, lv', _, s', he, q1, hk⟩
theorem room_put_l {B : Nat} {w w' : World} {base ab b cb wb N : Nat} {lv : Value} {f t : Int} {l : List Bk} {s : MS} {p : Int} {e : Ending} (hR : Room B w base ab b cb wb N lv ⟨f, t, l⟩ s) (h : RoomPut B w base ab b cb wb N lv ⟨f, t, l⟩ s p e w') :
    ∃ (u lv' : Value) (l' : List Bk) (s' : MS), e = .returned u ∧ Room B w' base ab b cb wb N lv' ⟨f, t, l'⟩ s' ∧ ∀ w0 : World, w0.heap.size = B → Keeps [] w0 w → Keeps [] w0 w' := by
  obtain ⟨u, lv', x', s', he, q1, q2, _, hcase⟩ := h
  have hk : ∀ w0 : World, w0.heap.size = B → Keeps [] w0 w → Keeps [] w0 w' := fun w0 h0 hK => hK.drop q2 (fun z hz => Or.inr (by rw [h0]; exact (hR.own z hz).1))
  rcases hcase with ⟨rfl, _⟩ | ⟨_, i, y, _, _, _, rfl, _⟩
  · exact ⟨u, lv', _, s', he, q1, hk⟩
  · exact ⟨u, lv', _, s', he, q1, hk⟩

theorem widest_lt {x : AS} {n : Int} (h1 : 1 ≤ n) : ∀ k : Nat, (∀ i, i < k → gapOf x.fr x.l x.til i < n) → widest x k < n
  | 0, _ => by show (0 : Int) < n; omega
  | k + 1, h => by
    have := widest_lt h1 k (fun i hi => h i (by omega))
    have := h k (by omega)
    unfold widest
    omega
theorem widest_ge {x : AS} : ∀ k i : Nat, i < k → gapOf x.fr x.l x.til i ≤ widest x k
  | 0, i, hi => by omega
  | k + 1, i, hi => by
    unfold widest
    rcases Nat.lt_or_ge i k with h | h
    · have := widest_ge (x := x) k i h
      omega
    · obtain rfl : i = k := by omega
      omega

/-- The number of an element, out of what Within makes of it. -/
theorem within_nat (v : Int) (n : Nat) (h : 0 < n) : ∃ q : Nat, v % (n : Int) = (q : Int) ∧ q < n := ⟨(v % (n : Int)).toNat, by have := Int.emod_nonneg v (show (n : Int) ≠ 0 by omega); omega, by have := Int.emod_lt_of_pos v (show 0 < (n : Int) by omega); have := Int.emod_nonneg v (show (n : Int) ≠ 0 by omega); omega⟩

set_option maxRecDepth 100000 in
set_option maxHeartbeats 4000000 in
theorem allocFinds_walk (a0 : Option Addr) (len0 cap0 : Nat) (z0 : List Int) (a1 : Option Addr) (len1 cap1 : Nat) (z1 : List Int) (n : Int) (w : World) (w0 : RowIn' .i64 w a0 len0 cap0 z0) (w1 : RowIn' .i64 w a1 len1 cap1 z1) (_w2 : (Lit.int .i64 n).wf = true)
    (hg : w.cell? ⟨0, 0, none⟩ = some (.iface 137 (.agg #[.pointer (some ⟨1, 24, none⟩)]))) :
    Calls Tryd.prog 7 #[.slice a0 len0 cap0, .slice a1 len1 cap1, .int .i64 n] w fun e w' => e = .returned (.bool true) ∧ Below w.heap.size w w' := by
  have HG : Hid (GV w) := hid hg
  have hl0 := w0.len_le
  have hl1 := w1.len_le
  have HW0 := hid w0
  have HW1 := hid w1
  clear hg w0 w1
  go_enter Tryd.func7, Tryd.ntmps7
  go_wp2_with fail
  refine (room_any w).mono ?_
  rintro e w1 ⟨base, ab, b, cb, wb, rfl, hR, hK⟩
  have HR := hid hR
  have HK := hid hK
  clear hR hK
  go_wp2_with fail
  go_loopw [9] (fun i wr => ∃ (k : Nat) (lv : Value) (l : List Bk) (s : MS), k ≤ len0 ∧ k ≤ 40 ∧ i = .int .i64 k ∧ Hid (Room w.heap.size wr base ab b cb wb 100 lv ⟨0, 100, l⟩ s) ∧ Keeps [] w wr) (fun i _ => (40 - (intOf i).toNat))
  case atStart => exact ⟨0, _, [], _, by omega, by omega, rfl, HR, HK.out⟩
  case round =>
    obtain ⟨k, lv, l, s, hk, hk2, rfl, HR, hKR⟩ := hrel
    by_cases hlt : k < len0 ∧ k < 40
    · obtain ⟨hl1', hl2⟩ := hlt
      obtain ⟨xb, xo, rfl, hxb, hz, hc, _⟩ := HW0.out.elems (by omega)
      have e0 := (hKR.cell (p := ⟨xb, xo + k, none⟩) hxb (by simp)).trans (hc k (by omega))
      clear hc hz
      generalize z0.getD k 0 = v at *
      obtain ⟨q, hq, hq20⟩ := within_nat v 20 (by omega)
      have HQ := hid hq
      clear hq
      go_wp2_with fail
      refine (within_any v 20 _ (by omega) (by omega)).mono ?_
      rintro e w' ⟨rfl, rfl⟩
      rw [show v % 20 = (q : Int) from HQ.out]
      go_wp2_with fail
      refine (room_get HR.out _ 64).mono ?_
      intro e w2 h
      obtain ⟨at_, u, lv2, l2, s2, rfl, hR2, hK2⟩ := room_get_l HR.out h
      have hK2 := hK2 w rfl hKR
      have HR2 := hid hR2
      clear h hR2 e0
      by_cases hb : k < len1
      · obtain ⟨yb, yo, rfl, hyb, hz, hc, _⟩ := HW1.out.elems (by omega)
        have e1 := (hK2.cell (p := ⟨yb, yo + k, none⟩) hyb (by simp)).trans (hc k (by omega))
        clear hc hz
        generalize z1.getD k 0 = v1 at *
        go_wp2_with fail
        refine (within_any v1 100 _ (by omega) (by omega)).mono ?_
        rintro e w' ⟨rfl, rfl⟩
        go_wp2_with fail
        refine (room_put HR2.out _).mono ?_
        intro e w3 h
        obtain ⟨u3, lv3, l3, s3, rfl, hR3, hK3⟩ := room_put_l HR2.out h
        have hK3 := hK3 w rfl hK2
        have HR3 := hid hR3
        clear h hR3 e1
        go_wp2_with fail
        go_roundw
        case rel => exact ⟨k + 1, lv3, l3, s3, by omega, by omega, by go_num, HR3, hK3⟩
        case measure => simp [intOf]; omega
      · go_wp2_with fail
        go_roundw
        case rel => exact ⟨k + 1, lv2, l2, s2, by omega, by omega, by go_num, HR2, hK2⟩
        case measure => simp [intOf]; omega
    · have hcase : k = len0 ∨ (k < len0 ∧ k = 40) := by omega
      obtain ⟨r, hr, hr100⟩ := within_nat n 100 (by omega)
      have HQ := hid hr
      clear hr hlt
      obtain ⟨m, hm⟩ : ∃ m : Nat, m = 1 + r := ⟨_, rfl⟩
      have hm1 : 1 ≤ m := by omega
      have hm2 : m ≤ 100 := by omega
      have HMM : Hid (1 + (r : Int) = (m : Int)) := hid (by omega)
      clear hm
      rcases hcase with hcl | ⟨hl1, hl2⟩
      all_goals
        go_wp2_with fail
        refine (within_any n 100 _ (by omega) (by omega)).mono ?_
        rintro e w' ⟨rfl, rfl⟩
        rw [show n % 100 = (r : Int) from HQ.out]
        go_wp2_with fail
        rw [HMM.out]
        refine (widest_any base ab b lv ⟨0, 100, l⟩ _ HR.out.alloc HR.out.inv.ok).mono ?_
        rintro e w2 ⟨rfl, hK2⟩
        have HR2 := hid (HR.out.keeps hK2)
        have hK2 := hKR.trans hK2
        go_wp2_with fail
        refine (room_get HR2.out _ 64).mono ?_
        rintro e w3 ⟨at_, u, lv3, x3, s3, rfl, hR3, hK3, _, hcase⟩
        have hK3 := hK2.drop hK3 (fun z hz => Or.inr (HR2.out.own z hz).1)
        have HK3 := hid hK3
        clear hK3
        rcases hcase with ⟨rfl, _, _, _, h1 | ⟨hno, hE⟩⟩ | ⟨rfl, i, hi, _, _, hgap, _, rfl, _, _⟩
        · omega
        · have hw := widest_lt (x := ⟨0, 100, l⟩) (n := (m : Int)) (by omega) (l.length + 1) (fun i hi => hno i (by show i ≤ l.length; omega))
          have d1 : decide (widest ⟨0, 100, l⟩ (l.length + 1) < (m : Int)) = true := by simpa using hw
          obtain ⟨⟨T, y, rfl⟩, hE⟩ := hE
          have HE := hid (hE [] w3 (Keeps.refl _ _) (by simp))
          clear hno hw hE hR3
          go_wp2_with fail
          refine (no_any allocS 0 3 _).mono ?_
          rintro e w8 ⟨v, rfl, hF, hK8⟩
          have HK8 := hid (HK3.out.trans hK8)
          go_wp2_with fail
          refine (same_one _ v allocS 0 3 _ (HG.out.keeps HK8.out (by simp)) (ErrAt.keeps hK8 HE.out) hF (by omega) (by omega)).mono ?_
          rintro e w9 ⟨rfl, hK9⟩
          have HK9 := hid (HK8.out.trans hK9)
          go_wp2_with fail
          refine (awake3_any _ (HG.out.keeps HK9.out (by simp))).mono ?_
          rintro e w10 ⟨rfl, hK10⟩
          go_wp2_with fail
          go_ret
          exact ⟨rfl, (HK9.out.trans hK10).below (Nat.le_refl _) (by simp)⟩
        · have hgp := widest_ge (x := ⟨0, 100, l⟩) (l.length + 1) i (by have hi : i ≤ l.length := hi; omega)
          have d1 : decide (widest ⟨0, 100, l⟩ (l.length + 1) < (m : Int)) = false := by simp; omega
          have hcc := HR2.out.inv.gapCells hi (by omega) hgap
          obtain ⟨c1, _, c3, _⟩ := hcc
          have c3 : endOf 0 l i + (m : Int) ≤ 100 := c3
          have c1 : 0 ≤ endOf 0 l i := c1
          have d2 : decide (0 ≤ endOf 0 l i) = true := by simpa using c1
          have d3 : decide (endOf 0 l i + (m : Int) ≤ 100) = true := by simpa using c3
          clear hgap hgp hR3 hi
          generalize endOf 0 l i = en at *
          go_wp2_with fail
          refine (awake3_any _ (HG.out.keeps HK3.out (by simp))).mono ?_
          rintro e w10 ⟨rfl, hK10⟩
          go_wp2_with fail
          go_ret
          exact ⟨rfl, (HK3.out.trans hK10).below (Nat.le_refl _) (by simp)⟩
end Go.Proofs.YtmciclhifcjoiaaDoor
