/-
  The document's allocator: Get where somebody else has a cell.
-/
import Derived.Test.YtmciclhifcjoiaaDoorRef03b
import Derived.Test.YtmciclhifcjoiaaDoorBoth
namespace Go.Proofs.YtmciclhifcjoiaaDoor
open Go.RowKit

set_option maxRecDepth 100000 in
set_option maxHeartbeats 2000000 in
theorem rget_fail (base rab rb rwb rhb : Nat) (lv : Value) (x : AS) (s s' : MS) (l0 : ByteArray) (n0 kk : Int) (n wd : Int) (w : World) (hA : RAllocAt w base rab rb lv x) (hx : x.ok) (hM : RefAt w rb rwb rhb s) (h1 : 1 ≤ n) (h2 : n ≤ 4096) (hv : wd = 32 ∨ wd = 64)
    (i0 : Nat) (hi : i0 ≤ x.l.length) (hgap : n ≤ gapOf x.fr x.l x.til i0) (hbefore : ∀ i, i < i0 → gapOf x.fr x.l x.til i < n)
    (hmp : ∀ w1, RefAt w1 rb rwb rhb s → Calls Tryd.prog 30 #[.pointer (some ⟨rb, 0, none⟩), .int .i64 (endOf x.fr x.l i0), .int .i64 n, .int .i64 wd] w1 (RPost w1 rb rwb rhb s' (some ([(l0, n0)], kk)))) :
    Calls Tryd.prog 42 #[.pointer (some ⟨rab, 0, none⟩), .int .i64 n, .int .i64 wd] w fun e w' =>
    ∃ v, e = .returned (.tuple #[.int .i64 0, v]) ∧ FailAt w' v [(allocS, endOf x.fr x.l i0), (l0, n0)] kk ∧ RefAt w' rb rwb rhb s' ∧ Keeps [rb, rwb, rhb] w w' := by
  obtain ⟨hab, hB, hO⟩ := hA
  have c1 := hB.cell (i := 1) rfl
  obtain ⟨a, cap, rfl, hrows⟩ := rows_at hO
  have hlen := hx.few
  have HX := hid hx
  have HB := hid hB
  have HR := hid hrows
  have HNO := hid hbefore
  have HGAP := hid hgap
  have HMP := hid hmp
  have HM := hid hM
  have HLT : Hid (∀ g, a = some ⟨g, 0, none⟩ → g < w.heap.size) := hid (fun g hg => by subst hg; exact (World.ownsRow.lt hO g rfl).2)
  have d1 : decide (n < 1) = false := by simp; omega
  have d2 : decide (4096 < n) = false := by simp; omega
  clear hB hO hrows hx hbefore hgap hmp hM
  generalize hL : x.l.length = len at *
  have HL := hid hL
  clear hL
  rcases hv with rfl | rfl
  all_goals
    go_enter Tryd.func42, Tryd.ntmps42
    go_wp2_with fail
    go_loopw [8, 9] (fun at_ i wr => ∃ k : Nat, k ≤ i0 ∧ i = .int .i64 k ∧ at_ = .int .i64 (endOf x.fr x.l k) ∧ Keeps [] w wr) (fun _ i _ => (len - (intOf i).toNat))
    case atStart => exact ⟨0, by omega, rfl, rfl, Keeps.refl [] w⟩
    case round =>
      obtain ⟨k, hk, rfl, rfl, hKR⟩ := hrel
      have hBR := HB.out.keeps hKR (by simp)
      have c2 := hBR.cell (i := 2) rfl
      have c3 := hBR.cell (i := 3) rfl
      have c0 := hBR.cell (i := 0) rfl
      have hgp := HX.out.chain.gap (i := k) (by rw [HL.out]; omega)
      have hlo := HX.out.lo
      have hhi := HX.out.hi
      clear hBR
      by_cases hlt : k < i0
      · have hgn := HNO.out k hlt
        unfold gapOf at hgn
        obtain ⟨y, hy⟩ : ∃ y, x.l[k]? = some y := ⟨_, List.getElem?_eq_getElem (by rw [HL.out]; omega)⟩
        obtain ⟨g, rfl, hc⟩ := HR.out (by omega)
        have hg := HLT.out g rfl
        have e0 := (hKR.cell (p := ⟨g, k * 3, none⟩) hg (by simp)).trans (hc k y hy).1
        have e1 := (hKR.cell (p := ⟨g, k * 3 + 1, none⟩) hg (by simp)).trans (hc k y hy).2.1
        have hs := r_start_at (t := x.til) hy
        have hel := HX.out.chain.elem hy
        have HE := hid (r_end_next (a := x.fr) hy)
        rw [hs] at hgp hgn
        clear hc hs hy
        generalize y.pos = p at *
        generalize y.n = q at *
        generalize endOf x.fr x.l k = en at *
        have d3 : decide (p - en < n) = true := decide_eq_true hgn
        have hsum : IntKind.i64.wrap (p + q) = p + q := by rw [IntKind.wrap_i64]; omega
        go_wp2_with fail
        go_quiet (fail)
        go_wp2_with fail
        go_roundw
        case rel => exact ⟨k + 1, by omega, by go_num, by rw [HE.out], hKR.drewN _⟩
        case measure => simp [intOf]; omega
      · obtain rfl : k = i0 := by omega
        have hgn := HGAP.out
        unfold gapOf at hgn
        by_cases hkl : k < len
        · obtain ⟨y, hy⟩ : ∃ y, x.l[k]? = some y := ⟨_, List.getElem?_eq_getElem (by rw [HL.out]; omega)⟩
          obtain ⟨g, rfl, hc⟩ := HR.out (by omega)
          have hg := HLT.out g rfl
          have e0 := (hKR.cell (p := ⟨g, k * 3, none⟩) hg (by simp)).trans (hc k y hy).1
          have hs := r_start_at (t := x.til) hy
          have hel := HX.out.chain.elem hy
          rw [hs] at hgp hgn
          clear hc hs hy
          have d3 : decide (y.pos - endOf x.fr x.l k < n) = false := decide_eq_false (by omega)
          have d4 : ((k : Int) == (len : Int)) = false := by simp; omega
          have d5 : (k == len) = false := by simp; omega
          go_wp2_with fail
          refine (HMP.out _ (HM.out.keeps hKR (by simp) (by simp) (by simp))).mono ?_
          rintro e w2 ⟨u, rfl, hD, hM2, hK2⟩
          have HF := hid hD.1
          obtain ⟨pb, _, _, _, _, _, _, rfl, _⟩ := hD.1
          have HM2 := hid hM2
          have HK2 := hid ((hKR.mono (by simp)).trans hK2)
          clear hD hM2 hK2
          go_wp2_with fail
          refine (kin_one allocS (endOf x.fr x.l k) _ l0 n0 kk _ HF.out).mono ?_
          rintro e w3 ⟨v, rfl, hF3, hK3⟩
          go_wp2_with fail
          go_ret2
          exact ⟨v, rfl, hF3, HM2.out.keeps hK3 (by simp) (by simp) (by simp), HK2.out.trans (hK3.mono (by simp))⟩
        · obtain rfl : k = len := by omega
          have hs : startOf x.l x.til k = x.til := by unfold startOf; rw [if_pos HL.out.symm]
          rw [hs] at hgp hgn
          clear hs
          have d3 : decide (x.til - endOf x.fr x.l k < n) = false := decide_eq_false (by omega)
          have d4 : ((k : Int) == (k : Int)) = true := by simp
          go_wp2_with fail
          refine (HMP.out _ (HM.out.keeps hKR (by simp) (by simp) (by simp))).mono ?_
          rintro e w2 ⟨u, rfl, hD, hM2, hK2⟩
          have HF := hid hD.1
          obtain ⟨pb, _, _, _, _, _, _, rfl, _⟩ := hD.1
          have HM2 := hid hM2
          have HK2 := hid ((hKR.mono (by simp)).trans hK2)
          clear hD hM2 hK2
          go_wp2_with fail
          refine (kin_one allocS (endOf x.fr x.l k) _ l0 n0 kk _ HF.out).mono ?_
          rintro e w3 ⟨v, rfl, hF3, hK3⟩
          go_wp2_with fail
          go_ret2
          exact ⟨v, rfl, hF3, HM2.out.keeps hK3 (by simp) (by simp) (by simp), HK2.out.trans (hK3.mono (by simp))⟩
end Go.Proofs.YtmciclhifcjoiaaDoor
