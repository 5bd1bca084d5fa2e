/-
  AllocApart: the walk of the statement's own function.
-/
import Derived.Test.YtmciclhifcjoiaaDoorAllocBackWalk
namespace Go.Proofs.YtmciclhifcjoiaaDoor
open Go.RowKit

theorem tmod_two (k : Nat) : (k : Int).tmod 2 = 0 ∨ (k : Int).tmod 2 = 1 := by
  rcases Nat.mod_two_eq_zero_or_one k with h | h
  · exact .inl (by show ((k % 2 : Nat) : Int) = 0; rw [h]; rfl)
  · exact .inr (by show ((k % 2 : Nat) : Int) = 1; rw [h]; rfl)

theorem start_at {l : List Bk} {t : Int} {j : Nat} {y : Bk} (h : l[j]? = some y) : startOf l t j = y.pos := by
  have hj := (List.getElem?_eq_some_iff.1 h).1
  unfold startOf
  rw [if_neg (by omega)]
  simp [List.getD, h]
theorem end_next {l : List Bk} {a : Int} {j : Nat} {y : Bk} (h : l[j]? = some y) : endOf a l (j + 1) = y.pos + y.n := by
  show (l.getD j bk0).pos + (l.getD j bk0).n = _
  simp [List.getD, h]
theorem used_next {l : List Bk} {j : Nat} {y : Bk} (h : l[j]? = some y) : used (l.take (j + 1)) = used (l.take j) + y.n := by
  rw [List.take_add_one, h]
  exact used_snoc _ _
theorem used_take {l : List Bk} {a t : Int} (hC : Chain a l t) : ∀ {j : Nat}, j ≤ l.length → 0 ≤ used (l.take j) ∧ a + used (l.take j) ≤ endOf a l j
  | 0, _ => by simp [used, endOf]
  | j + 1, hj => by
    obtain ⟨h1, h2⟩ := @used_take l a t hC j (by omega)
    obtain ⟨y, hy⟩ : ∃ y, l[j]? = some y := ⟨_, List.getElem?_eq_getElem (by omega)⟩
    have h3 := hC.gap (i := j) (by omega)
    have h4 := hC.elem hy
    rw [start_at hy] at h3
    rw [used_next hy, end_next hy]
    omega

set_option maxRecDepth 100000 in
set_option maxHeartbeats 4000000 in
theorem allocApart_walk (a0 : Option Addr) (len0 cap0 : Nat) (z0 : List Int) (a1 : Option Addr) (len1 cap1 : Nat) (z1 : List Int) (w : World) (w0 : RowIn' .i64 w a0 len0 cap0 z0) (w1 : RowIn' .i64 w a1 len1 cap1 z1)
    (hg : w.cell? ⟨0, 0, none⟩ = some (.iface 137 (.agg #[.pointer (some ⟨1, 24, none⟩)]))) :
    Calls Tryd.prog 10 #[.slice a0 len0 cap0, .slice a1 len1 cap1] w fun e w' => e = .returned (.bool true) ∧ Below w.heap.size w w' := by
  have HG : Hid (GV w) := hid hg
  have hl0 := w0.len_le
  have hl1 := w1.len_le
  have HW0 := hid w0
  have HW1 := hid w1
  clear hg w0 w1
  go_enter Tryd.func10, Tryd.ntmps10
  go_wp2_with fail
  refine (room_any w).mono ?_
  rintro e w1 ⟨base, ab, b, cb, wb, rfl, hR, hK⟩
  have HR := hid hR
  have HK := hid hK
  clear hR hK
  go_wp2_with fail
  go_loopw [7] (fun i wr => ∃ (k : Nat) (lv : Value) (l : List Bk) (s : MS), k ≤ len0 ∧ k ≤ 40 ∧ i = .int .i64 k ∧ Hid (Room w.heap.size wr base ab b cb wb 100 lv ⟨0, 100, l⟩ s) ∧ Keeps [] w wr) (fun i _ => (40 - (intOf i).toNat))
  case atStart => exact ⟨0, _, [], _, by omega, by omega, rfl, HR, HK.out⟩
  case round =>
    obtain ⟨k, lv, l, s, hk, hk2, rfl, HR, hKR⟩ := hrel
    by_cases hlt : k < len0 ∧ k < 40
    · obtain ⟨hl1', hl2⟩ := hlt
      obtain ⟨xb, xo, rfl, hxb, hz, hc, _⟩ := HW0.out.elems (by omega)
      have e0 := (hKR.cell (p := ⟨xb, xo + k, none⟩) hxb (by simp)).trans (hc k (by omega))
      have hxb2 := Nat.lt_of_lt_of_le hxb hKR.size
      clear hc hz
      generalize z0.getD k 0 = v at *
      have ht := tmod_two k
      rcases ht with ht | ht
      all_goals
        go_wp2_with fail
        go_region_with (go_at_call 32; refine (room_get (HR.out.keeps (((Keeps.refl [] _).drew).alloc _)) _ _).mono ?_; intro e w2 h; obtain ⟨at_, u, lv2, l2, s2, rfl, hR2, hK2⟩ := room_get_l (HR.out.keeps (((Keeps.refl [] _).drew).alloc _)) h; replace hK2 := hK2 w rfl (hKR.drew.alloc _))
        all_goals
          have HR2 := hid hR2
          clear h hR2 e0
          by_cases hb : k < len1
          · obtain ⟨yb, yo, rfl, hyb, hz, hc, _⟩ := HW1.out.elems (by omega)
            have e1 := (hK2.cell (p := ⟨yb, yo + k, none⟩) hyb (by simp)).trans (hc k (by omega))
            clear hc hz
            generalize z1.getD k 0 = v1 at *
            by_cases hd : v1.tmod 3 = 0
            · have hd2 : (v1.tmod 3 == 0) = true := by simp [hd]
              go_wp2_with fail
              refine (within_any v1 100 _ (by omega) (by omega)).mono ?_
              rintro e w' ⟨rfl, rfl⟩
              go_wp2_with fail
              refine (room_put HR2.out _).mono ?_
              intro e w3 h
              obtain ⟨u3, lv3, l3, s3, rfl, hR3, hK3⟩ := room_put_l HR2.out h
              have hK3 := hK3 w rfl hK2
              have HR3 := hid hR3
              clear h hR3 e1
              go_wp2_with fail
              go_roundw
              case rel => exact ⟨k + 1, lv3, l3, s3, by omega, by omega, by go_num, HR3, hK3⟩
              case measure => simp [intOf]; omega
            · have hd2 : (v1.tmod 3 == 0) = false := by simp [hd]
              go_wp2_with fail
              go_roundw
              case rel => exact ⟨k + 1, lv2, l2, s2, by omega, by omega, by go_num, HR2, hK2⟩
              case measure => simp [intOf]; omega
          · go_wp2_with fail
            go_roundw
            case rel => exact ⟨k + 1, lv2, l2, s2, by omega, by omega, by go_num, HR2, hK2⟩
            case measure => simp [intOf]; omega
    · have hcase : k = len0 ∨ (k < len0 ∧ k = 40) := by omega
      have hln := room_len HR.out (by omega)
      have HC : Hid (Chain 0 l 100) := hid HR.out.inv.ok.chain
      clear hlt
      rcases hcase with hcl | ⟨hl1', hl2⟩
      all_goals
        go_wp2_with fail
        refine (blocks_any base ab b lv ⟨0, 100, l⟩ 1000 _ HR.out.alloc HR.out.inv.ok (by omega)).mono ?_
        intro e w2 h
        obtain ⟨v8, rfl, hO8, hK8⟩ := blocks_all hln h
        obtain ⟨a8, cap8, rfl, hT8⟩ := told_of hO8
        have HR2 := hid (HR.out.keeps hK8)
        have HK2 := hid (hKR.trans hK8)
        have HT2 := hid hT8
        clear h hO8 hT8 hK8
        generalize hn : l.length = n at *
        have HN := hid hn
        clear hn
        go_wp2_with fail
        go_loopw [9, 10, 11] (fun en un i wr => ∃ j : Nat, j ≤ n ∧ i = .int .i64 j ∧ en = .int .i64 (endOf 0 l j) ∧ un = .int .i64 (used (l.take j)) ∧ Keeps [] w2 wr) (fun _ _ i _ => (n - (intOf i).toNat))
        case atStart => exact ⟨0, by omega, rfl, rfl, rfl, Keeps.refl _ _⟩
        case round =>
          obtain ⟨j, hj, rfl, hen, hun, hKR2⟩ := hrel
          by_cases hjn : j < n
          · obtain ⟨y, hy⟩ : ∃ y, l[j]? = some y := ⟨_, List.getElem?_eq_getElem (by rw [HN.out]; omega)⟩
            have h1 := HC.out.gap (i := j) (by rw [HN.out]; omega)
            have h2 := HC.out.elem hy
            have h3 := used_take HC.out (j := j) (by rw [HN.out]; omega)
            have h4 := start_at (t := 100) hy
            obtain ⟨g8, rfl, hg8, q0, q1, q2⟩ := (HT2.out.keeps hKR2) j y hy
            have HT3 := hid (HT2.out.keeps hKR2)
            obtain ⟨E, hE⟩ : ∃ E : Nat, endOf 0 l j = E := ⟨(endOf 0 l j).toNat, by omega⟩
            obtain ⟨P, hP⟩ : ∃ P : Nat, y.pos = P := ⟨y.pos.toNat, by omega⟩
            obtain ⟨Q, hQ⟩ : ∃ Q : Nat, y.n = Q := ⟨y.n.toNat, by omega⟩
            obtain ⟨V, hV⟩ : ∃ V : Nat, used (l.take j) = V := ⟨(used (l.take j)).toNat, by omega⟩
            have HE2 : Hid (endOf 0 l (j + 1) = ((P + Q : Nat) : Int)) := hid (by rw [end_next hy, hP, hQ]; simp)
            have HV2 : Hid (used (l.take (j + 1)) = ((V + Q : Nat) : Int)) := hid (by rw [used_next hy, hV, hQ]; simp)
            have HZ : Hid (∀ a : Nat, E ≤ a → a < P → s.width.getD (Int.toNat (a : Int)) 0 = 0) := hid (fun a ha hb => by
              rw [Int.toNat_natCast]
              exact (HR2.out.inv.cells a (by show (0 : Int) ≤ a; omega) (by show (a : Int) < 100; omega)).trans (wdAt_gap HC.out (i := j) (by rw [HN.out]; omega) (by rw [hE]; omega) (by rw [h4, hP]; omega)))
            have HY : Hid (∀ a : Nat, P ≤ a → a < P + Q → s.width.getD (Int.toNat (a : Int)) 0 = y.wd) := hid (fun a ha hb => by
              rw [Int.toNat_natCast]
              exact (HR2.out.inv.cells a (by show (0 : Int) ≤ a; omega) (by show (a : Int) < 100; omega)).trans (wdAt_in HC.out hy (by omega) (by omega)))
            rw [hE] at hen
            rw [hV] at hun
            subst hen
            subst hun
            have b1 : E ≤ P := by omega
            have b2 : 1 ≤ Q := by omega
            have b3 : P + Q ≤ 100 := by omega
            have b4 : V ≤ E := by omega
            rw [hP] at q0
            rw [hQ] at q1
            obtain ⟨y2, hy2⟩ : ∃ y2, y.wd = y2 := ⟨_, rfl⟩
            have HYJ := hid hy
            have HYP := hid hP
            have HYQ := hid hQ
            have HYW := hid hy2
            rw [hy2] at q2 HY
            clear h1 h2 h3 h4 hE hV hP hQ hy hy2
            have d1 : decide (P < E) = false := decide_eq_false (by omega)
            have d2 : decide ((Q : Int) < 1) = false := decide_eq_false (by omega)
            have d3 : decide (100 < (P : Int) + (Q : Int)) = false := decide_eq_false (by omega)
            have d4 : (y2 != y2) = false := by simp
            have hw : IntKind.i64.wrap ((P : Int) + (Q : Int)) = (P : Int) + (Q : Int) := by rw [IntKind.wrap_i64]; omega
            go_wp2_with fail
            go_quiet (fail)
            go_wp2_with fail
            clear d1 d2 d3
            go_loopw [12] (fun i wr => ∃ a : Nat, E ≤ a ∧ a ≤ P ∧ i = .int .i64 a ∧ Keeps [] w2 wr) (fun i _ => (P - (intOf i).toNat))
            case atStart => exact ⟨E, by omega, by omega, rfl, hKR2.drewN _⟩
            case round =>
              obtain ⟨a, ha1, ha2, rfl, hKR3⟩ := hrel
              obtain ⟨g9, hg9, _, q0, q1, q2⟩ := (HT2.out.keeps hKR3) j y HYJ.out
              cases hg9
              rw [HYP.out] at q0
              rw [HYQ.out] at q1
              rw [HYW.out] at q2
              by_cases hap : a < P
              · have hz := HZ.out a ha1 hap
                have d5 : decide (a < P) = true := decide_eq_true hap
                go_wp2_with fail
                refine (width_any b cb wb s a _ (HR2.out.keeps hKR3).mem (by omega)).mono ?_
                rintro e w' ⟨rfl, rfl⟩
                rw [hz]
                go_wp2_with fail
                go_roundw
                case rel => exact ⟨a + 1, by omega, by omega, by go_num, hKR3⟩
                case measure => simp [intOf]; omega
              · obtain rfl : a = P := by omega
                have d5 : decide ((a : Int) < (a : Int)) = false := decide_eq_false (by omega)
                go_wp2_with fail
                go_loopw [13] (fun i wr => ∃ c : Nat, a ≤ c ∧ c ≤ a + Q ∧ i = .int .i64 c ∧ Keeps [] w2 wr) (fun i _ => (a + Q - (intOf i).toNat))
                case atStart => exact ⟨a, by omega, by omega, rfl, hKR3⟩
                case round =>
                  obtain ⟨c, hc1, hc2, rfl, hKR4⟩ := hrel
                  obtain ⟨g9, hg9, _, q0, q1, q2⟩ := (HT2.out.keeps hKR4) j y HYJ.out
                  cases hg9
                  rw [HYP.out] at q0
                  rw [HYQ.out] at q1
                  rw [HYW.out] at q2
                  by_cases hcp : c < a + Q
                  · have hz := HY.out c hc1 hcp
                    have d6 : decide ((c : Int) < (a : Int) + (Q : Int)) = true := decide_eq_true (by omega)
                    have hwc : IntKind.u64.wrap (c : Int) = (c : Int) := by rw [IntKind.wrap_u64]; omega
                    have HRC := hid (HR2.out.keeps hKR4)
                    have HW1 := hid (fun (W : World) (h : Keeps [] wr W) => width_any b cb wb s c W ((HRC.out.keeps h).mem) (by omega))
                    rw [hz] at HW1
                    go_wp2_with fail
                    go_quiet (fail)
                    go_wp2_with fail
                    go_region_with (first | (go_at_call 21; refine (HW1.out _ (((Keeps.refl [] _).drewN _).drew)).mono ?_; rintro e w' ⟨rfl, rfl⟩) | (go_at_call 21; refine (HW1.out _ ((Keeps.refl [] _).drewN _)).mono ?_; rintro e w' ⟨rfl, rfl⟩))
                    all_goals
                      go_wp2_with fail
                      go_roundw
                      case rel => first | exact ⟨c + 1, by omega, by omega, by go_num, hKR4.drewN _⟩ | exact ⟨c + 1, by omega, by omega, by go_num, (hKR4.drewN _).drew⟩
                      case measure => simp [intOf]; omega
                  · obtain rfl : c = a + Q := by omega
                    have d6 : decide (((a + Q : Nat) : Int) < (a : Int) + (Q : Int)) = false := decide_eq_false (by omega)
                    have d7 : decide ((a : Int) + (Q : Int) < (a : Int) + (Q : Int)) = false := decide_eq_false (by omega)
                    go_wp2_with fail
                    go_quiet (fail)
                    go_wp2_with fail
                    go_quiet (fail)
                    go_wp2_with fail
                    go_roundw
                    case rel => exact ⟨j + 1, by omega, by go_num, by rw [HE2.out]; go_num, by rw [HV2.out]; go_num, hKR4.drewN _⟩
                    case measure => simp [intOf]; omega
          · obtain rfl : j = n := by omega
            have hU := HR2.out.inv.there
            obtain ⟨U, hU2⟩ : ∃ U, used l = U := ⟨_, rfl⟩
            have HU := hid hU2
            have hT : l.take j = l := List.take_of_length_le (by rw [HN.out]; omega)
            rw [hT, hU2] at hun
            subst hen
            subst hun
            have hUU : (U == U) = true := by simp
            have HRJ := hid (HR2.out.keeps hKR2)
            have HKJ := hid (HK2.out.trans hKR2)
            generalize endOf 0 l j = en0 at *
            clear hU hU2 hT hKR2
            go_wp2_with fail
            refine (used_any _ _ b _ _ _ HRJ.out.alloc HRJ.out.inv.ok).mono ?_
            rintro e w6 ⟨rfl, hK6⟩
            rw [show used ({ fr := 0, til := 100, l := l } : AS).l = U from HU.out]
            have HR6 := hid (HRJ.out.keeps hK6)
            have HK6 := hid (HKJ.out.trans hK6)
            clear hK6
            go_wp2_with fail
            refine (there_any b cb wb s _ HR6.out.mem).mono ?_
            rintro e w' ⟨rfl, rfl⟩
            rw [show s.there = U from HR6.out.inv.there.trans HU.out]
            go_wp2_with fail
            refine (awake3_any _ (HG.out.keeps HK6.out (by simp))).mono ?_
            rintro e w7 ⟨rfl, hK7⟩
            go_wp2_with fail
            go_ret
            exact ⟨rfl, (HK6.out.trans hK7).below (Nat.le_refl _) (by simp)⟩
end Go.Proofs.YtmciclhifcjoiaaDoor
