/-
  AllocBack: the walk of the statement's own function.
-/
import Derived.Test.YtmciclhifcjoiaaDoorAllocNewsWalk
namespace Go.Proofs.YtmciclhifcjoiaaDoor
open Go.RowKit

theorem chain_before {l : List Bk} {t : Int} : ∀ {a : Int} {i j : Nat} {y : Bk}, Chain a l t → i ≤ l.length → j < i → l[j]? = some y → y.pos + y.n ≤ endOf a l i ∧ 1 ≤ y.n := by
  induction l with
  | nil => intro a i j y h hi hj; simp at hi; omega
  | cons b l ih =>
    intro a i j y h hi hj hy
    obtain ⟨h1, h2, h3⟩ := h
    cases i with
    | zero => omega
    | succ i =>
      rw [endOf_cons]
      cases j with
      | zero =>
        simp at hy
        subst hy
        have := (h3.gap (i := i) (by simpa using hi)).1
        omega
      | succ j => exact @ih _ i j y h3 (by simpa using hi) (by omega) (by simpa using hy)
theorem chain_after {l : List Bk} {t : Int} : ∀ {a : Int} {i j : Nat} {y : Bk}, Chain a l t → i ≤ j → l[j]? = some y → startOf l t i ≤ y.pos := by
  induction l with
  | nil => intro a i j y h hj hy; simp at hy
  | cons b l ih =>
    intro a i j y h hj hy
    obtain ⟨h1, h2, h3⟩ := h
    cases i with
    | zero =>
      have e : startOf (b :: l) t 0 = b.pos := by simp [startOf]
      rw [e]
      cases j with
      | zero => simp at hy; subst hy; omega
      | succ j =>
        have := h3.elem (i := j) (by simpa using hy)
        omega
    | succ i =>
      rw [startOf_cons]
      cases j with
      | zero => omega
      | succ j => exact @ih _ i j y h3 (by omega) (by simpa using hy)

theorem ins_before {l : List Bk} {i j : Nat} {b : Bk} (hi : i ≤ l.length) (hj : j < i) : (l.take i ++ (b :: l.drop i))[j]? = l[j]? := by
  rw [List.getElem?_append_left (by simp; omega), List.getElem?_take, if_pos hj]
theorem ins_at {l : List Bk} {i : Nat} {b : Bk} (hi : i ≤ l.length) : (l.take i ++ (b :: l.drop i))[i]? = some b := by
  rw [List.getElem?_append_right (List.length_take_le _ _), List.length_take, Nat.min_eq_left hi, Nat.sub_self]
  rfl
theorem ins_del (x : AS) (i : Nat) (b : Bk) (hi : i ≤ x.l.length) : (x.ins i b).del i = x := by
  unfold AS.ins AS.del
  have h1 : (x.l.take i ++ (b :: x.l.drop i)).take i = x.l.take i := by
    rw [List.take_append_of_le_length (by simp; omega), List.take_take, Nat.min_self]
  have h2 : (x.l.take i ++ (b :: x.l.drop i)).drop (i + 1) = x.l.drop i := by
    have e : i + 1 = (x.l.take i).length + 1 := by simp; omega
    rw [e, List.drop_length_add_append]
    rfl
  show ({ fr := x.fr, til := x.til, l := (x.l.take i ++ (b :: x.l.drop i)).take i ++ (x.l.take i ++ (b :: x.l.drop i)).drop (i + 1) } : AS) = x
  rw [h1, h2, List.take_append_drop]

/-- What was just taken is given back. -/
theorem put_back {B : Nat} {w w' : World} {base ab b cb wb N : Nat} {lv : Value} {f t n wd : Int} {l : List Bk} {s : MS} {i : Nat} {e : Ending} (hch : Chain f l t) (hi : i ≤ l.length)
    (h : RoomPut B w base ab b cb wb N lv ((⟨f, t, l⟩ : AS).ins i ⟨endOf f l i, n, wd⟩) s (endOf f l i) e w') :
    e = .returned .nilIface ∧ ∃ lv' s', Room B w' base ab b cb wb N lv' ⟨f, t, l⟩ s' ∧ Keeps ([ab, b, cb, wb] ++ lv.ownBlock.toList) w w' ∧ lv'.ownBlock = lv.ownBlock := by
  obtain ⟨u, lv', x', s', rfl, q1, q2, q3, ⟨_, _, h1, _⟩ | ⟨rfl, k, y, hk, hy, hb, rfl, rfl⟩⟩ := h
  · exact absurd rfl (h1 i _ (ins_at hi))
  · have hki : k = i := by
      rcases Nat.lt_trichotomy k i with h2 | h2 | h2
      · have hk : (l.take i ++ (⟨endOf f l i, n, wd⟩ :: l.drop i))[k]? = some y := hk
        rw [ins_before hi h2] at hk
        have := chain_before hch hi h2 hk
        omega
      · exact h2
      · exact absurd rfl (hb i _ h2 (ins_at hi))
    subst hki
    rw [ins_del ⟨f, t, l⟩ k _ hi] at q1
    exact ⟨rfl, lv', _, q1, q2, q3⟩

/-- What is not there cannot be given back. -/
theorem put_again {B : Nat} {w w' : World} {base ab b cb wb N : Nat} {lv : Value} {f t n : Int} {l : List Bk} {s : MS} {i : Nat} {e : Ending} (hch : Chain f l t) (hi : i ≤ l.length) (h1 : 1 ≤ n) (hg : n ≤ gapOf f l t i)
    (h : RoomPut B w base ab b cb wb N lv ⟨f, t, l⟩ s (endOf f l i) e w') :
    ∃ u, e = .returned u ∧ ErrNew w w' u [(allocS, endOf f l i)] 4 ∧ Keeps ([ab, b, cb, wb] ++ lv.ownBlock.toList) w w' := by
  obtain ⟨u, lv', x', s', rfl, q1, q2, q3, ⟨_, _, _, hE⟩ | ⟨rfl, k, y, hk, hy, hb, rfl, rfl⟩⟩ := h
  · exact ⟨u, rfl, hE, q2⟩
  · exfalso
    have hk : l[k]? = some y := hk
    unfold gapOf at hg
    rcases Nat.lt_or_ge k i with h2 | h2
    · have := chain_before hch hi h2 hk
      omega
    · have := chain_after hch h2 hk
      omega

theorem told_at {w : World} {base : Nat} {t : TypeId} {lv : Value} {l : List Bk} (h : w.ownsRow base t 3 lv l.length (l.flatMap Bk.cells)) :
    ∃ a cap, lv = .slice a l.length cap ∧ Told w a l ∧ ∀ g, a = some ⟨g, 0, none⟩ → base ≤ g ∧ g < w.heap.size := by
  obtain ⟨a, cap, rfl, hT⟩ := told_of h
  exact ⟨a, cap, rfl, hT, fun g hg => by subst hg; exact World.ownsRow.lt h g rfl⟩
theorem Told.keepsS {S : List Nat} {w w' : World} {a : Option Addr} {l : List Bk} (h : Told w a l) (hK : Keeps S w w') (hS : ∀ g, a = some ⟨g, 0, none⟩ → g ∉ S) : Told w' a l := by
  intro i b hb
  obtain ⟨g, ha, hg, h0, h1, h2⟩ := h i b hb
  have hn := hS g ha
  exact ⟨g, ha, Nat.lt_of_lt_of_le hg hK.size, (hK.cell (p := ⟨g, i * 3, none⟩) hg hn).trans h0, (hK.cell (p := ⟨g, i * 3 + 1, none⟩) hg hn).trans h1, (hK.cell (p := ⟨g, i * 3 + 2, none⟩) hg hn).trans h2⟩

set_option maxRecDepth 100000 in
set_option maxHeartbeats 4000000 in
theorem allocBack_walk (a0 : Option Addr) (len0 cap0 : Nat) (z0 : List Int) (m : Int) (w : World) (w0 : RowIn' .i64 w a0 len0 cap0 z0) (_w1 : (Lit.int .i64 m).wf = true)
    (hg : w.cell? ⟨0, 0, none⟩ = some (.iface 137 (.agg #[.pointer (some ⟨1, 24, none⟩)]))) :
    Calls Tryd.prog 13 #[.slice a0 len0 cap0, .int .i64 m] w fun e w' => e = .returned (.bool true) ∧ Below w.heap.size w w' := by
  have HG : Hid (GV w) := hid hg
  have hl0 := w0.len_le
  have HW0 := hid w0
  clear hg w0
  go_enter Tryd.func13, Tryd.ntmps13
  go_wp2_with fail
  refine (room_any w).mono ?_
  rintro e w1 ⟨base, ab, b, cb, wb, rfl, hR, hK⟩
  have HR := hid hR
  have HK := hid hK
  clear hR hK
  go_wp2_with fail
  go_loopw [7] (fun i wr => ∃ (k : Nat) (lv : Value) (l : List Bk) (s : MS), k ≤ len0 ∧ k ≤ 30 ∧ i = .int .i64 k ∧ Hid (Room w.heap.size wr base ab b cb wb 100 lv ⟨0, 100, l⟩ s) ∧ Keeps [] w wr) (fun i _ => (30 - (intOf i).toNat))
  case atStart => exact ⟨0, _, [], _, by omega, by omega, rfl, HR, HK.out⟩
  case round =>
    obtain ⟨k, lv, l, s, hk, hk2, rfl, HR, hKR⟩ := hrel
    by_cases hlt : k < len0 ∧ k < 30
    · obtain ⟨hl1', hl2⟩ := hlt
      obtain ⟨xb, xo, rfl, hxb, hz, hc, _⟩ := HW0.out.elems (by omega)
      have e0 := (hKR.cell (p := ⟨xb, xo + k, none⟩) hxb (by simp)).trans (hc k (by omega))
      clear hc hz
      generalize z0.getD k 0 = v at *
      obtain ⟨q, hq, hq20⟩ := within_nat v 9 (by omega)
      have HQ := hid hq
      clear hq
      go_wp2_with fail
      refine (within_any v 9 _ (by omega) (by omega)).mono ?_
      rintro e w' ⟨rfl, rfl⟩
      rw [show v % 9 = (q : Int) from HQ.out]
      go_wp2_with fail
      refine (room_get HR.out _ 32).mono ?_
      intro e w2 h
      obtain ⟨at_, u, lv2, l2, s2, rfl, hR2, hK2⟩ := room_get_l HR.out h
      have hK2 := hK2 w rfl hKR
      have HR2 := hid hR2
      clear h hR2 e0
      go_wp2_with fail
      go_roundw
      case rel => exact ⟨k + 1, lv2, l2, s2, by omega, by omega, by go_num, HR2, hK2⟩
      case measure => simp [intOf]; omega
    · have hcase : k = len0 ∨ (k < len0 ∧ k = 30) := by omega
      have hln := room_len HR.out (by omega)
      have HC : Hid (Chain 0 l 100) := hid HR.out.inv.ok.chain
      obtain ⟨U, hU⟩ : ∃ U, used l = U := ⟨_, rfl⟩
      obtain ⟨D, hD⟩ : ∃ D, widest ⟨0, 100, l⟩ (l.length + 1) = D := ⟨_, rfl⟩
      have HU := hid hU
      have HD := hid hD
      have hUn : (U != U) = false := by simp
      have hDn : (D != D) = false := by simp
      have hUe : (U == U) = true := by simp
      clear hlt hU hD
      rcases hcase with hcl | ⟨hl1, hl2⟩
      all_goals
        go_wp2_with fail
        refine (blocks_any base ab b lv ⟨0, 100, l⟩ 1000 _ HR.out.alloc HR.out.inv.ok (by omega)).mono ?_
        intro e w2 h
        obtain ⟨v8, rfl, hO8, hK8⟩ := blocks_all hln h
        obtain ⟨a8, cap8, rfl, hT8, hS8⟩ := told_at hO8
        have HS8 : Hid (∀ g, a8 = some ⟨g, 0, none⟩ → g ∉ [ab, b, cb, wb] ++ lv.ownBlock.toList) := hid (fun g hg hm => by
          have h1 := HR.out.own g hm
          have h2 := hS8 g hg
          omega)
        have HS9 : Hid (∀ g, a8 = some ⟨g, 0, none⟩ → g < w2.heap.size) := hid (fun g hg => (hS8 g hg).2)
        have HR2 := hid (HR.out.keeps hK8)
        have HK2 := hid (hKR.trans hK8)
        have HT2 := hid hT8
        clear h hO8 hT8 hK8 hS8
        go_wp2_with fail
        refine (used_any _ _ b _ _ _ HR2.out.alloc HR2.out.inv.ok).mono ?_
        rintro e w3 ⟨rfl, hK3⟩
        rw [show used ({ fr := 0, til := 100, l := l } : AS).l = U from HU.out]
        have HR3 := hid (HR2.out.keeps hK3)
        have HK3 := hid (HK2.out.trans hK3)
        have HT3 := hid (HT2.out.keeps hK3)
        have HZ3 := hid hK3.size
        clear hK3
        go_wp2_with fail
        refine (widest_any _ _ b _ _ _ HR3.out.alloc HR3.out.inv.ok).mono ?_
        rintro e w4 ⟨rfl, hK4⟩
        rw [show widest ({ fr := 0, til := 100, l := l } : AS) (({ fr := 0, til := 100, l := l } : AS).l.length + 1) = D from HD.out]
        have HR4 := hid (HR3.out.keeps hK4)
        have HK4 := hid (HK3.out.trans hK4)
        have HT4 := hid (HT3.out.keeps hK4)
        have HZ4 := hid (Nat.le_trans HZ3.out hK4.size)
        clear hK4
        go_wp2_with fail
        refine (there_any b cb wb s _ HR4.out.mem).mono ?_
        rintro e w' ⟨rfl, rfl⟩
        rw [show s.there = U from HR4.out.inv.there.trans HU.out]
        go_wp2_with fail
        refine (room_get HR4.out m 64).mono ?_
        rintro e w5 ⟨at_, u, lv5, x5, s5, rfl, hR5, hK5, hO5, ⟨rfl, rfl, rfl, rfl, he⟩ | ⟨rfl, i, hi, h1, _, hgap, _, rfl, rfl, rfl⟩⟩
        · have hu : ∃ T y, u = .iface T y := by
            rcases he with ⟨_, he⟩ | ⟨_, he⟩
            · exact he.1
            · exact he.1
          obtain ⟨T, y, rfl⟩ := hu
          have HR5 := hid hR5
          have HK5 := hid (HK4.out.drop hK5 (fun z hz => Or.inr (HR4.out.own z hz).1))
          clear he hR5 hK5 hO5
          go_wp2_with fail
          refine (used_any _ _ b _ _ _ HR5.out.alloc HR5.out.inv.ok).mono ?_
          rintro e w6 ⟨rfl, hK6⟩
          rw [show used ({ fr := 0, til := 100, l := l } : AS).l = U from HU.out]
          have HR6 := hid (HR5.out.keeps hK6)
          have HK6 := hid (HK5.out.trans hK6)
          clear hK6
          go_wp2_with fail
          refine (there_any b cb wb _ _ HR6.out.mem).mono ?_
          rintro e w' ⟨rfl, rfl⟩
          rw [show MS.there _ = U from HR6.out.inv.there.trans HU.out]
          go_wp2_with fail
          refine (awake3_any _ (HG.out.keeps HK6.out (by simp))).mono ?_
          rintro e w7 ⟨rfl, hK7⟩
          go_wp2_with fail
          go_ret
          exact ⟨rfl, (HK6.out.trans hK7).below (Nat.le_refl _) (by simp)⟩
        · have hi : i ≤ l.length := hi
          have hgap : m ≤ gapOf 0 l 100 i := hgap
          have HT5 := hid (HT4.out.keepsS hK5 HS8.out)
          have HK5 := hid (HK4.out.drop hK5 (fun z hz => Or.inr (HR4.out.own z hz).1))
          have HS5 : Hid (∀ g, a8 = some ⟨g, 0, none⟩ → g ∉ [ab, b, cb, wb] ++ lv5.ownBlock.toList) := hid (fun g hg hm => by
            have n1 := HS8.out g hg
            have n2 := HS9.out g hg
            have n3 := HZ4.out
            rcases List.mem_append.1 hm with hm | hm
            · exact n1 (List.mem_append.2 (.inl hm))
            · rcases hO5 g (by simpa using hm) with n4 | n4
              · exact n1 (List.mem_append.2 (.inr (by simpa using n4)))
              · omega)
          have HR5 := hid hR5
          have HI := hid hi
          have HGAP := hid hgap
          have HM := hid h1
          clear hR5 hK5 hO5 hi hgap h1
          have eP : endOf (AS.fr { fr := 0, til := 100, l := l }) (AS.l { fr := 0, til := 100, l := l }) i = endOf 0 l i := rfl
          rw [eP]
          clear eP
          go_wp2_with fail
          refine (room_put HR5.out (endOf 0 l i)).mono ?_
          intro e w6 h
          obtain ⟨rfl, lv6, s6, hR6, hK6, hO6⟩ := put_back HC.out HI.out h
          have HT6 := hid (HT5.out.keepsS hK6 HS5.out)
          have HK6 := hid (HK5.out.drop hK6 (fun z hz => Or.inr (HR5.out.own z hz).1))
          have HR6 := hid hR6
          clear h hR6 hK6 hO6
          go_wp2_with fail
          refine (used_any _ _ b _ _ _ HR6.out.alloc HR6.out.inv.ok).mono ?_
          rintro e w7 ⟨rfl, hK7⟩
          rw [show used ({ fr := 0, til := 100, l := l } : AS).l = U from HU.out]
          have HR7 := hid (HR6.out.keeps hK7)
          have HK7 := hid (HK6.out.trans hK7)
          have HT7 := hid (HT6.out.keeps hK7)
          clear hK7
          go_wp2_with fail
          refine (widest_any _ _ b _ _ _ HR7.out.alloc HR7.out.inv.ok).mono ?_
          rintro e w8 ⟨rfl, hK8⟩
          rw [show widest ({ fr := 0, til := 100, l := l } : AS) (({ fr := 0, til := 100, l := l } : AS).l.length + 1) = D from HD.out]
          have HR8 := hid (HR7.out.keeps hK8)
          have HK8 := hid (HK7.out.trans hK8)
          have HT8 := hid (HT7.out.keeps hK8)
          clear hK8
          go_wp2_with fail
          refine (there_any b cb wb s6 _ HR8.out.mem).mono ?_
          rintro e w' ⟨rfl, rfl⟩
          rw [show s6.there = U from HR8.out.inv.there.trans HU.out]
          go_wp2_with fail
          refine (blocks_any base ab b lv6 ⟨0, 100, l⟩ 1000 _ HR8.out.alloc HR8.out.inv.ok (by omega)).mono ?_
          intro e w9 h
          obtain ⟨v14, rfl, hO14, hK9⟩ := blocks_all hln h
          obtain ⟨a14, cap14, rfl, hT14⟩ := told_of hO14
          have HR9 := hid (HR8.out.keeps hK9)
          have HK9 := hid (HK8.out.trans hK9)
          have HT9 := hid (HT8.out.keeps hK9)
          have HT14 := hid hT14
          clear h hO14 hT14 hK9
          generalize hn : l.length = n at *
          have HN := hid hn
          clear hn
          have hnn : ((n : Int) == (n : Int)) = true := by simp
          go_wp2_with fail
          go_loopw [15] (fun i wr => ∃ j : Nat, j ≤ n ∧ i = .int .i64 j ∧ Keeps [] w9 wr) (fun i _ => (n - (intOf i).toNat))
          case atStart => exact ⟨0, by omega, rfl, Keeps.refl _ _⟩
          case round =>
            obtain ⟨j, hj, rfl, hKR2⟩ := hrel
            by_cases hjn : j < n
            · obtain ⟨y, hy⟩ : ∃ y, l[j]? = some y := ⟨_, List.getElem?_eq_getElem (by rw [HN.out]; omega)⟩
              obtain ⟨g8, rfl, _, q0, q1, q2⟩ := (HT9.out.keeps hKR2) j y hy
              obtain ⟨g14, rfl, _, p0, p1, p2⟩ := (HT14.out.keeps hKR2) j y hy
              clear hy
              generalize y.pos = y0 at *
              generalize y.n = y1 at *
              generalize y.wd = y2 at *
              go_wp2_with fail
              go_quiet (fail)
              go_wp2_with fail
              go_roundw
              case rel => exact ⟨j + 1, by omega, by go_num, hKR2.drewN _⟩
              case measure => simp [intOf]; omega
            · obtain rfl : j = n := by omega
              have HRJ := hid (HR9.out.keeps hKR2)
              have HKJ := hid (HK9.out.trans hKR2)
              clear hKR2 hjn
              go_wp2_with fail
              refine (room_put HRJ.out (endOf 0 l i)).mono ?_
              intro e w10 h
              obtain ⟨u, rfl, hE, hK10⟩ := put_again HC.out (by rw [HN.out]; have := HI.out; omega) HM.out HGAP.out h
              have HKP := hid (HKJ.out.drop hK10 (fun z hz => Or.inr (HRJ.out.own z hz).1))
              obtain ⟨⟨T, y, rfl⟩, hE⟩ := hE
              have HE := hid (hE [] w10 (Keeps.refl _ _) (by simp))
              clear h hK10 hE
              go_wp2_with fail
              refine (no_any allocS (endOf 0 l i) 4 _).mono ?_
              rintro e w11 ⟨u3, rfl, hF3, hK11⟩
              have HK11 := hid (HKP.out.trans hK11)
              have HE11 := hid (ErrAt.keeps hK11 HE.out)
              have HF3 := hid hF3
              clear hK11 hF3
              go_wp2_with fail
              refine (same_one _ u3 allocS (endOf 0 l i) 4 _ (HG.out.keeps HK11.out (by simp)) HE11.out HF3.out (by omega) (by omega)).mono ?_
              rintro e w12 ⟨rfl, hK12⟩
              have HK12 := hid (HK11.out.trans hK12)
              clear hK12
              go_wp2_with fail
              refine (awake3_any _ (HG.out.keeps HK12.out (by simp))).mono ?_
              rintro e w13 ⟨rfl, hK13⟩
              go_wp2_with fail
              go_ret
              exact ⟨rfl, (HK12.out.trans hK13).below (Nat.le_refl _) (by simp)⟩
end Go.Proofs.YtmciclhifcjoiaaDoor
