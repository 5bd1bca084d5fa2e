/-
  AllocTells: the walk of the statement's own function.
-/
import Derived.Test.YtmciclhifcjoiaaDoorAl7
import Derived.Test.YtmciclhifcjoiaaDoorAllocFindsWalk
namespace Go.Proofs.YtmciclhifcjoiaaDoor
open Go.RowKit

theorem room_len {B : Nat} {w : World} {base ab b cb wb N : Nat} {lv : Value} {t : Int} {l : List Bk} {s : MS} (h : Room B w base ab b cb wb N lv ⟨0, t, l⟩ s) (ht : t ≤ 1000) : l.length ≤ 1000 := by
  have := chain_len l 0 t h.inv.ok.chain
  omega

theorem chain_next {l : List Bk} {t : Int} : ∀ {a : Int} {j : Nat} {b c : Bk}, Chain a l t → l[j]? = some b → l[j + 1]? = some c → b.pos + b.n ≤ c.pos ∧ 1 ≤ b.n := by
  induction l with
  | nil => intro a j b c h hb; simp at hb
  | cons d l ih =>
    intro a j b c h hb hc
    obtain ⟨h1, h2, h3⟩ := h
    cases j with
    | zero =>
      simp at hb hc
      subst hb
      have := h3.elem hc
      omega
    | succ j => exact ih h3 (by simpa using hb) (by simpa using hc)

/-- All blocks are told. -/
theorem blocks_all {w w' : World} {l : List Bk} {e : Ending} (hl : l.length ≤ 1000) (h : BlocksPost w l 1000 e w') : ∃ v, e = .returned v ∧ w'.ownsRow w.heap.size 66 3 v l.length (l.flatMap Bk.cells) ∧ Keeps [] w w' := by
  obtain ⟨v, he, hO, hK⟩ := h
  have e1 : l.take (1000 : Int).toNat = l := List.take_of_length_le hl
  rw [e1] at hO
  exact ⟨v, he, hO, hK⟩

/-- What a slice of blocks holds, in later worlds. -/
def Told (w : World) (a : Option Addr) (l : List Bk) : Prop := ∀ (i : Nat) (b : Bk), l[i]? = some b → ∃ g, a = some ⟨g, 0, none⟩ ∧ g < w.heap.size ∧
  w.cell? ⟨g, i * 3, none⟩ = some (.int .i64 b.pos) ∧ w.cell? ⟨g, i * 3 + 1, none⟩ = some (.int .i64 b.n) ∧ w.cell? ⟨g, i * 3 + 2, none⟩ = some (.int .i64 b.wd)
theorem told_of {w : World} {base : Nat} {t : TypeId} {lv : Value} {l : List Bk} (h : w.ownsRow base t 3 lv l.length (l.flatMap Bk.cells)) : ∃ a cap, lv = .slice a l.length cap ∧ Told w a l := by
  obtain ⟨a, cap, rfl, hrows⟩ := rows_at h
  refine ⟨a, cap, rfl, fun i b hb => ?_⟩
  obtain ⟨g, rfl, hc⟩ := hrows (by have := (List.getElem?_eq_some_iff.1 hb).1; omega)
  exact ⟨g, rfl, (World.ownsRow.lt h g rfl).2, hc i b hb⟩
theorem Told.keeps {w w' : World} {a : Option Addr} {l : List Bk} (h : Told w a l) (hK : Keeps [] w w') : Told w' a l := by
  intro i b hb
  obtain ⟨g, ha, hg, h0, h1, h2⟩ := h i b hb
  exact ⟨g, ha, Nat.lt_of_lt_of_le hg hK.size, (hK.cell (p := ⟨g, i * 3, none⟩) hg (by simp)).trans h0, (hK.cell (p := ⟨g, i * 3 + 1, none⟩) hg (by simp)).trans h1, (hK.cell (p := ⟨g, i * 3 + 2, none⟩) hg (by simp)).trans h2⟩

set_option maxRecDepth 100000 in
set_option maxHeartbeats 4000000 in
theorem allocTells_walk (a0 : Option Addr) (len0 cap0 : Nat) (z0 : List Int) (m : Int) (w : World) (w0 : RowIn' .i64 w a0 len0 cap0 z0) (_w1 : (Lit.int .i64 m).wf = true)
    (hg : w.cell? ⟨0, 0, none⟩ = some (.iface 137 (.agg #[.pointer (some ⟨1, 24, none⟩)]))) :
    Calls Tryd.prog 8 #[.slice a0 len0 cap0, .int .i64 m] w fun e w' => e = .returned (.bool true) ∧ Below w.heap.size w w' := by
  have HG : Hid (GV w) := hid hg
  have hl0 := w0.len_le
  have HW0 := hid w0
  clear hg w0
  go_enter Tryd.func8, Tryd.ntmps8
  go_wp2_with fail
  refine (room_any w).mono ?_
  rintro e w1 ⟨base, ab, b, cb, wb, rfl, hR, hK⟩
  have HR := hid hR
  have HK := hid hK
  clear hR hK
  go_wp2_with fail
  go_loopw [7] (fun i wr => ∃ (k : Nat) (lv : Value) (l : List Bk) (s : MS), k ≤ len0 ∧ k ≤ 30 ∧ i = .int .i64 k ∧ Hid (Room w.heap.size wr base ab b cb wb 100 lv ⟨0, 100, l⟩ s) ∧ Keeps [] w wr) (fun i _ => (30 - (intOf i).toNat))
  case atStart => exact ⟨0, _, [], _, by omega, by omega, rfl, HR, HK.out⟩
  case round =>
    obtain ⟨k, lv, l, s, hk, hk2, rfl, HR, hKR⟩ := hrel
    by_cases hlt : k < len0 ∧ k < 30
    · obtain ⟨hl1', hl2⟩ := hlt
      obtain ⟨xb, xo, rfl, hxb, hz, hc, _⟩ := HW0.out.elems (by omega)
      have e0 := (hKR.cell (p := ⟨xb, xo + k, none⟩) hxb (by simp)).trans (hc k (by omega))
      clear hc hz
      generalize z0.getD k 0 = v at *
      obtain ⟨q, hq, hq20⟩ := within_nat v 9 (by omega)
      have HQ := hid hq
      clear hq
      go_wp2_with fail
      refine (within_any v 9 _ (by omega) (by omega)).mono ?_
      rintro e w' ⟨rfl, rfl⟩
      rw [show v % 9 = (q : Int) from HQ.out]
      go_wp2_with fail
      refine (room_get HR.out _ 64).mono ?_
      intro e w2 h
      obtain ⟨at_, u, lv2, l2, s2, rfl, hR2, hK2⟩ := room_get_l HR.out h
      have hK2 := hK2 w rfl hKR
      have HR2 := hid hR2
      clear h hR2 e0
      go_wp2_with fail
      go_roundw
      case rel => exact ⟨k + 1, lv2, l2, s2, by omega, by omega, by go_num, HR2, hK2⟩
      case measure => simp [intOf]; omega
    · have hcase : k = len0 ∨ (k < len0 ∧ k = 30) := by omega
      obtain ⟨r, hr, hr20⟩ := within_nat m 20 (by omega)
      have HQ := hid hr
      have hln := room_len HR.out (by omega)
      clear hr hlt
      obtain ⟨p, hp⟩ : ∃ p : Nat, p = 1 + r := ⟨_, rfl⟩
      have hp1 : 1 ≤ p := by omega
      have hp2 : p ≤ 100 := by omega
      have HMM : Hid (1 + (r : Int) = (p : Int)) := hid (by omega)
      clear hp
      have HC : Hid (Chain 0 l 100) := hid HR.out.inv.ok.chain
      rcases hcase with hcl | ⟨hl1, hl2⟩
      all_goals
        go_wp2_with fail
        refine (blocks_any base ab b lv ⟨0, 100, l⟩ 1000 _ HR.out.alloc HR.out.inv.ok (by omega)).mono ?_
        intro e w2 h
        obtain ⟨v8, rfl, hO8, hK8⟩ := blocks_all hln h
        obtain ⟨a8, cap8, rfl, hT8⟩ := told_of hO8
        have HR8 := hid (HR.out.keeps hK8)
        have HK8 := hid (hKR.trans hK8)
        have HT8 := hid hT8
        clear h hO8 hT8 hK8
        go_wp2_with fail
        refine (within_any m 20 _ (by omega) (by omega)).mono ?_
        rintro e w' ⟨rfl, rfl⟩
        rw [show m % 20 = (r : Int) from HQ.out]
        go_wp2_with fail
        rw [HMM.out]
        refine (blocks_any base ab b lv ⟨0, 100, l⟩ p _ HR8.out.alloc HR8.out.inv.ok (by omega)).mono ?_
        rintro e w3 ⟨v10, rfl, hO10, hK10⟩
        obtain ⟨a10, cap10, rfl, hT10⟩ := told_of hO10
        have HR10 := hid (HR8.out.keeps hK10)
        have HT8 := hid (HT8.out.keeps hK10)
        have HT10 := hid hT10
        have HK10 := hid (HK8.out.trans hK10)
        have hlen10 : (l.take (p : Int).toNat).length = Nat.min p l.length := by rw [List.length_take]; rfl
        clear hO10 hT10 hK10 HR8 HK8
        by_cases hpl : p ≤ l.length
        · have hM : (l.take (p : Int).toNat).length = p := by rw [hlen10]; show min p l.length = _; omega
          rw [hM]
          have c1 : (p : Int) ≤ (l.length : Int) := by omega
          have c2 : ¬ (l.length : Int) < (p : Int) := by omega
          have hpp : ((p : Int) != (p : Int)) = false := by simp
          have HMM2 : Hid (∀ j, j < p → (l.take (p : Int).toNat)[j]? = l[j]?) := hid (fun j hj => by rw [List.getElem?_take]; rw [if_pos (by omega)])
          clear hlen10 hM
          generalize hn : l.length = n at *
          have HN := hid hn
          clear hn
          go_wp2_with fail
          go_loopw [11] (fun i wr => ∃ j : Nat, j ≤ n ∧ i = .int .i64 j ∧ Keeps [] w3 wr) (fun i _ => (n - (intOf i).toNat))
          case atStart => exact ⟨0, by omega, rfl, Keeps.refl _ _⟩
          case round =>
            obtain ⟨j, hj, rfl, hKR2⟩ := hrel
            by_cases hjn : j < n
            · obtain ⟨y, hy⟩ : ∃ y, l[j]? = some y := ⟨_, List.getElem?_eq_getElem (by rw [HN.out]; omega)⟩
              obtain ⟨g8, rfl, _, q0, q1, q2⟩ := (HT8.out.keeps hKR2) j y hy
              have HY := hid hy
              clear hy
              by_cases hj0 : j = 0
              · subst hj0
                rw [Nat.zero_mul] at q0
                rw [Nat.zero_mul, Nat.zero_add] at q1 q2
                by_cases hjm : 0 < p
                · obtain ⟨g10, rfl, _, p0, p1, p2⟩ := (HT10.out.keeps hKR2) 0 y ((HMM2.out 0 hjm).trans HY.out)
                  rw [Nat.zero_mul] at p0
                  rw [Nat.zero_mul, Nat.zero_add] at p1 p2
                  have d1 : decide ((0 : Int) < ((p : Nat) : Int)) = true := decide_eq_true (by omega)
                  generalize y.pos = y0 at *
                  generalize y.n = y1 at *
                  generalize y.wd = y2 at *
                  go_wp2_with fail
                  go_quiet (fail)
                  go_wp2_with fail
                  go_roundw
                  case rel => exact ⟨1, by omega, by go_num, hKR2.drewN _⟩
                  case measure => simp [intOf]; omega
                · omega
              · obtain ⟨q, rfl⟩ : ∃ q, j = q + 1 := ⟨j - 1, by omega⟩
                obtain ⟨x, hx⟩ : ∃ x, l[q]? = some x := ⟨_, List.getElem?_eq_getElem (by rw [HN.out]; omega)⟩
                obtain ⟨g9, hg9, _, r0, _, _⟩ := (HT8.out.keeps hKR2) q x hx
                cases hg9
                have hlt := chain_next HC.out hx HY.out
                have d3 : decide (y.pos ≤ x.pos) = false := decide_eq_false (by omega)
                have d0 : decide ((0 : Int) < (q : Int) + 1) = true := decide_eq_true (by omega)
                have b9 : (q : Int) + 1 < (n : Int) := by omega
                have hq1 : q ≤ n := by omega
                clear hx hlt
                by_cases hjm : q + 1 < p
                · obtain ⟨g10, rfl, _, p0, p1, p2⟩ := (HT10.out.keeps hKR2) (q + 1) y ((HMM2.out (q + 1) hjm).trans HY.out)
                  have d1 : decide ((q : Int) + 1 < ((p : Nat) : Int)) = true := decide_eq_true (by omega)
                  generalize y.pos = y0 at *
                  generalize y.n = y1 at *
                  generalize y.wd = y2 at *
                  generalize x.pos = x0 at *
                  go_wp2_with fail
                  go_quiet (fail)
                  go_wp2_with fail
                  go_roundw
                  case rel => exact ⟨q + 1 + 1, by omega, by go_num, hKR2.drewN _⟩
                  case measure => simp [intOf]; omega
                · have d1 : decide ((q : Int) + 1 < ((p : Nat) : Int)) = false := decide_eq_false (by omega)
                  generalize y.pos = y0 at *
                  generalize x.pos = x0 at *
                  clear q1 q2
                  go_wp2_with fail
                  go_quiet (fail)
                  go_wp2_with fail
                  go_roundw
                  case rel => exact ⟨q + 1 + 1, by omega, by go_num, hKR2.drewN _⟩
                  case measure => simp [intOf]; omega
            · obtain rfl : j = n := by omega
              have HRR := hid (HR10.out.keeps hKR2)
              have HKK := hid (HK10.out.trans hKR2)
              clear HR10 HK10
              go_wp2_with fail
              refine (blocks_any base ab b lv ⟨0, 100, l⟩ 1000 _ HRR.out.alloc HRR.out.inv.ok (by omega)).mono ?_
              intro e w4 h
              obtain ⟨v4, rfl, hO4, hK4⟩ := blocks_all (by show l.length ≤ 1000; rw [HN.out]; exact hln) h
              obtain ⟨a4, cap4, rfl, _⟩ := told_of hO4
              have HK4 := hid (HKK.out.trans hK4)
              rw [show ({ fr := 0, til := 100, l := l } : AS).l.length = j from HN.out]
              have hnn : ((j : Int) == (j : Int)) = true := by simp
              clear h hO4 hK4
              go_wp2_with fail
              refine (awake3_any _ (HG.out.keeps HK4.out (by simp))).mono ?_
              rintro e w5 ⟨rfl, hK5⟩
              go_wp2_with fail
              go_ret
              exact ⟨rfl, (HK4.out.trans hK5).below (Nat.le_refl _) (by simp)⟩
        · have hM : (l.take (p : Int).toNat).length = l.length := by rw [hlen10]; show min p l.length = _; omega
          rw [hM]
          have c1 : (l.length : Int) < (p : Int) := by omega
          have c2 : ¬ (p : Int) ≤ (l.length : Int) := by omega
          have hpp : ((l.length : Int) != (l.length : Int)) = false := by simp
          have HMM2 : Hid (∀ j, j < l.length → (l.take (p : Int).toNat)[j]? = l[j]?) := hid (fun j hj => by rw [List.getElem?_take]; rw [if_pos (by omega)])
          clear hlen10 hM
          generalize hn : l.length = n at *
          have HN := hid hn
          clear hn
          go_wp2_with fail
          go_loopw [11] (fun i wr => ∃ j : Nat, j ≤ n ∧ i = .int .i64 j ∧ Keeps [] w3 wr) (fun i _ => (n - (intOf i).toNat))
          case atStart => exact ⟨0, by omega, rfl, Keeps.refl _ _⟩
          case round =>
            obtain ⟨j, hj, rfl, hKR2⟩ := hrel
            by_cases hjn : j < n
            · obtain ⟨y, hy⟩ : ∃ y, l[j]? = some y := ⟨_, List.getElem?_eq_getElem (by rw [HN.out]; omega)⟩
              obtain ⟨g8, rfl, _, q0, q1, q2⟩ := (HT8.out.keeps hKR2) j y hy
              have HY := hid hy
              clear hy
              by_cases hj0 : j = 0
              · subst hj0
                rw [Nat.zero_mul] at q0
                rw [Nat.zero_mul, Nat.zero_add] at q1 q2
                by_cases hjm : 0 < n
                · obtain ⟨g10, rfl, _, p0, p1, p2⟩ := (HT10.out.keeps hKR2) 0 y ((HMM2.out 0 hjm).trans HY.out)
                  rw [Nat.zero_mul] at p0
                  rw [Nat.zero_mul, Nat.zero_add] at p1 p2
                  have d1 : decide ((0 : Int) < ((n : Nat) : Int)) = true := decide_eq_true (by omega)
                  generalize y.pos = y0 at *
                  generalize y.n = y1 at *
                  generalize y.wd = y2 at *
                  go_wp2_with fail
                  go_quiet (fail)
                  go_wp2_with fail
                  go_roundw
                  case rel => exact ⟨1, by omega, by go_num, hKR2.drewN _⟩
                  case measure => simp [intOf]; omega
                · omega
              · obtain ⟨q, rfl⟩ : ∃ q, j = q + 1 := ⟨j - 1, by omega⟩
                obtain ⟨x, hx⟩ : ∃ x, l[q]? = some x := ⟨_, List.getElem?_eq_getElem (by rw [HN.out]; omega)⟩
                obtain ⟨g9, hg9, _, r0, _, _⟩ := (HT8.out.keeps hKR2) q x hx
                cases hg9
                have hlt := chain_next HC.out hx HY.out
                have d3 : decide (y.pos ≤ x.pos) = false := decide_eq_false (by omega)
                have d0 : decide ((0 : Int) < (q : Int) + 1) = true := decide_eq_true (by omega)
                have b9 : (q : Int) + 1 < (n : Int) := by omega
                have hq1 : q ≤ n := by omega
                clear hx hlt
                by_cases hjm : q + 1 < n
                · obtain ⟨g10, rfl, _, p0, p1, p2⟩ := (HT10.out.keeps hKR2) (q + 1) y ((HMM2.out (q + 1) hjm).trans HY.out)
                  have d1 : decide ((q : Int) + 1 < ((n : Nat) : Int)) = true := decide_eq_true (by omega)
                  generalize y.pos = y0 at *
                  generalize y.n = y1 at *
                  generalize y.wd = y2 at *
                  generalize x.pos = x0 at *
                  go_wp2_with fail
                  go_quiet (fail)
                  go_wp2_with fail
                  go_roundw
                  case rel => exact ⟨q + 1 + 1, by omega, by go_num, hKR2.drewN _⟩
                  case measure => simp [intOf]; omega
                · omega
            · obtain rfl : j = n := by omega
              have HRR := hid (HR10.out.keeps hKR2)
              have HKK := hid (HK10.out.trans hKR2)
              clear HR10 HK10
              go_wp2_with fail
              refine (blocks_any base ab b lv ⟨0, 100, l⟩ 1000 _ HRR.out.alloc HRR.out.inv.ok (by omega)).mono ?_
              intro e w4 h
              obtain ⟨v4, rfl, hO4, hK4⟩ := blocks_all (by show l.length ≤ 1000; rw [HN.out]; exact hln) h
              obtain ⟨a4, cap4, rfl, _⟩ := told_of hO4
              have HK4 := hid (HKK.out.trans hK4)
              rw [show ({ fr := 0, til := 100, l := l } : AS).l.length = j from HN.out]
              have hnn : ((j : Int) == (j : Int)) = true := by simp
              clear h hO4 hK4
              go_wp2_with fail
              refine (awake3_any _ (HG.out.keeps HK4.out (by simp))).mono ?_
              rintro e w5 ⟨rfl, hK5⟩
              go_wp2_with fail
              go_ret
              exact ⟨rfl, (HK4.out.trans hK5).below (Nat.le_refl _) (by simp)⟩
end Go.Proofs.YtmciclhifcjoiaaDoor
