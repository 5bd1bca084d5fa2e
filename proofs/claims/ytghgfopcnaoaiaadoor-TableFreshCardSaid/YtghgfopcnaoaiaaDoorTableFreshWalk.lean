/-
  TableFresh: the walk of the statement's own function.
-/
import Derived.Test.YtghgfopcnaoaiaaDoorFresh
import Derived.Test.YtghgfopcnaoaiaaDoorRowIn
import Derived.Test.YtghgfopcnaoaiaaDoorOpen
namespace Go.Proofs.YtghgfopcnaoaiaaDoor
open Go.RowKit

theorem len_form {w : World} {base size : Nat} {e : TypeId} {v : Value} {n : Nat} {xs : List Value} (h : w.ownsRow base e size v n xs) : ∃ a cap, v = .slice a n cap := by
  rcases h.2 with ⟨rfl, rfl⟩ | ⟨g, cap, cur, rfl, _⟩
  · exact ⟨none, 0, rfl⟩
  · exact ⟨_, cap, rfl⟩

/-- A slice of one's own numbers. -/
def OwnU (w : World) (base : Nat) (v : Value) (g : List Int) : Prop := w.ownsRow base 34 1 v g.length (g.map (Value.int .u64))

theorem OwnU.keeps {S : List Nat} {w w' : World} {base : Nat} {v : Value} {g : List Int} (h : OwnU w base v g) (hK : Keeps S w w') (hS : ∀ x, x ∈ S → x < base) : OwnU w' base v g := by
  refine ⟨h.1, ?_⟩
  rcases h.2 with hn | ⟨q, cap, cur, rfl, hb, hgg, rest⟩
  · exact .inl hn
  · exact .inr ⟨q, cap, cur, rfl, hb, (hK.block q (Array.getElem?_eq_some_iff.1 hgg).1 (fun hm => by have := hS q hm; omega)).trans hgg, rest⟩

theorem OwnU.elems {w : World} {base : Nat} {a : Option Addr} {n cap : Nat} {g : List Int} (h : OwnU w base (.slice a n cap) g) (hn : 0 < g.length) : ∃ gb, a = some ⟨gb, 0, none⟩ ∧ ∀ j : Nat, j < g.length → w.cell? ⟨gb, j, none⟩ = some (.int .u64 (g.getD j 0)) := by
  rcases h.2 with ⟨_, h0⟩ | ⟨gb, c, cur, hv, _⟩
  · omega
  · cases hv
    refine ⟨gb, rfl, fun j hj => ?_⟩
    have := World.ownsRow.cells h (g := gb) rfl j (.int .u64 (g.getD j 0)) (by simp [List.getD, hj])
    rw [Go.WideShapes.add_plain] at this
    simpa using this

theorem infoU64 : (Tryd.prog.info? 34).map (fun i => (i.zero, i.size, i.bytes)) = some (some (.int .u64 0), 1, 8) := by kernel_rfl

def opKd : Nat → IntKind := fun j => [IntKind.i64, IntKind.i64, IntKind.u64, IntKind.u64, IntKind.i64].getD j .i64

theorem grown_list {w w' : World} {v : Value} (hg : w.grownBy w' v.ownBlock) : Keeps v.ownBlock.toList w w' :=
  ⟨hg.os, hg.tape, hg.output, hg.size, fun k hk hn => hg.block k hk (fun e => hn (by rw [← e]; simp))⟩

/-- Where the threads lie that All answers with. -/
theorem threads_at {w : World} {base : Nat} {a : Option Addr} {n cap : Nat} {l : List TRow} (h : w.ownsRow base 48 7 (.slice a n cap) n (l.flatMap TRow.thread)) (hn : 0 < n) :
    ∃ tb, a = some ⟨tb, 0, none⟩ ∧ ∀ (i : Nat) (r : TRow), l[i]? = some r → w.cell? ⟨tb, i * 7, none⟩ = some (.int .u64 r.id) := by
  rcases h.2 with ⟨_, h0⟩ | ⟨tb, c, cur, hv, _⟩
  · omega
  · cases hv
    refine ⟨tb, rfl, fun i r hr => ?_⟩
    have hf := flat_get TRow.thread_length l i 0 (by omega)
    rw [hr] at hf
    have := World.ownsRow.cells h (g := tb) rfl (i * 7) (.int .u64 r.id) hf
    rw [Go.WideShapes.add_plain] at this
    simpa using this

set_option maxRecDepth 100000 in
set_option maxHeartbeats 4000000 in
theorem tableFresh_walk (m : Int) (a1 : Option Addr) (len cap1 : Nat) (F : Nat → Nat → Int) (w : World) (_w0 : (Lit.int .i64 m).wf = true) (w1 : OpsIn opKd 5 w a1 len cap1 F) (hg : w.cell? ⟨0, 0, none⟩ = some (.iface 113 (.agg #[.pointer (some ⟨1, 24, none⟩)]))) :
    Calls Tryd.prog 4 #[.int .i64 m, .slice a1 len cap1] w fun e w' => e = .returned (.bool true) ∧ Below w.heap.size w w' := by
  obtain ⟨i0, hi, hz0, hz1, hz2⟩ := info_parts infoU64
  have HG : Hid (GV w) := hid hg
  have hlen := w1.1
  have HW := hid w1
  clear hg w1
  obtain ⟨q, hq, hq5⟩ : ∃ q : Nat, m % 5 = (q : Int) ∧ q < 5 := ⟨(m % 5).toNat, by omega, by omega⟩
  go_enter Tryd.func4, Tryd.ntmps4
  go_wp2_with fail
  refine (within_any m 5 _ (by omega) (by omega)).mono ?_
  rintro e w' ⟨rfl, rfl⟩
  rw [hq]
  go_wp2_with fail
  obtain ⟨n, hn⟩ : ∃ n : Nat, n = 1 + q := ⟨_, rfl⟩
  have hn2 : (1 + (q : Int)) = (n : Int) := by omega
  rw [hn2]
  have hn1 : 1 ≤ n := by omega
  have hn64 : n ≤ 64 := by omega
  clear hn2 hn hq hq5
  refine (tnew_ok n _ (by omega) (by omega)).mono ?_
  rintro e w1 ⟨b, rb, rfl, hT, hK, hb, hrb⟩
  have hx : ∀ x, x ∈ [rb] → x ∈ ([] : List Nat) ∨ w.heap.size ≤ x := by intro x hx; simp at hx; omega
  have HX := hid hx
  have hlt := hT.lt.2
  have hx2 : ∀ x, x ∈ [rb] → x < w1.heap.size := by intro x hx; simp at hx; omega
  have HX2 := hid hx2
  have HB := hid (And.intro hK.size hT.lt)
  clear hx hx2 hlt
  go_wp2_with fail
  go_loopw [7, 8] (fun v i wr => ∃ (k : Nat) (l : List TRow) (g : List Int) (a : Option Addr) (cap : Nat), k ≤ len ∧ k ≤ 80 ∧ i = .int .i64 k ∧ v = .slice a g.length cap ∧ OwnU wr w1.heap.size (.slice a g.length cap) g ∧ TableAt wr b rb l ∧ Fr n k l g ∧ Keeps [] w wr ∧ w1.heap.size ≤ wr.heap.size) (fun _ i _ => (80 - (intOf i).toNat))
  case atStart => exact ⟨0, _, [], none, 0, by omega, by omega, rfl, rfl, World.ownsRow_nil _ _ _ _, hT, Fr.start n, hK, Nat.le_refl _⟩
  case round =>
    obtain ⟨k, l, g, a, cap, hk, hk2, rfl, rfl, hO, hTR, hF, hKR, hSR⟩ := hrel
    have hgl : g.length ≤ 80 := Nat.le_trans hF.most hk2
    by_cases hlt : k < len ∧ k < 80
    · obtain ⟨hl1, hl2⟩ := hlt
      obtain ⟨xb, xo, rfl, hxb, hc⟩ := HW.out.elems (by omega) (by omega)
      have e0 : w.cell? ⟨xb, xo + k * 5, none⟩ = some (.int .i64 (F k 0)) := hc k hl1 0 (by omega)
      have e1 : w.cell? ⟨xb, xo + k * 5 + 1, none⟩ = some (.int .i64 (F k 1)) := hc k hl1 1 (by omega)
      have HC := hid (And.intro hxb (And.intro e0 e1))
      clear hc e0 e1 hxb
      generalize F k 0 = d at *
      generalize F k 1 = u at *
      rcases first_free l with hfull | ⟨i, r, hr, hf, hall⟩
      · have HF := hid (hF.full (by omega) hfull)
        have HO := hid hO
        clear hF hO
        go_wp2_with fail
        refine (born_full b rb l 9 _ hTR hfull).mono ?_
        rintro e w3 ⟨rfl, rfl⟩
        have hKa := (Keeps.refl [] wr).alloc (.cells #[.string tabS, .int .i64 0, .iface 30 (.int .i64 3)] 76)
        have HO := hid (HO.out.keeps hKa (by simp))
        have HT := hid (hTR.keeps hKa (by simp) (by simp))
        have HK := hid (hKR.trans hKa)
        have HS := hid (Nat.le_trans hSR hKa.size)
        clear hTR hKR hfull hKa hSR
        generalize (wr.alloc (.cells #[.string tabS, .int .i64 0, .iface 30 (.int .i64 3)] 76)) = w3 at *
        have hgp : 1 ≤ (g.length : Int) := by
          have := (HF.out.some_).resolve_left (by omega)
          have : g.length ≠ 0 := fun h => this (List.length_eq_zero_iff.1 h)
          omega
        have hgl2 : g.length ≤ 81 := by have := HF.out.most; omega
        have h0 : ((g.length : Int) == 0) = false := by simp only [beq_eq_false_iff_ne, ne_eq]; omega
        obtain ⟨p, hp, hpl⟩ : ∃ p : Nat, u % (g.length : Int) = (p : Int) ∧ p < g.length := ⟨(u % (g.length : Int)).toNat, by have := Int.emod_nonneg u (show (g.length : Int) ≠ 0 by omega); omega, by have := Int.emod_lt_of_pos u (show 0 < (g.length : Int) by omega); have := Int.emod_nonneg u (show (g.length : Int) ≠ 0 by omega); omega⟩
        obtain ⟨gb, rfl, hgc⟩ := HO.out.elems (by omega)
        have cp := hgc p hpl
        have hwho : 0 ≤ g.getD p 0 := by
          have hm : g.getD p 0 ∈ g := by simp [List.getD, hpl]
          obtain ⟨i2, r2, m2, _, g1, _, g3⟩ := HF.out.given _ hm
          omega
        clear hgc
        have e0 := (HK.out.cell (p := ⟨xb, xo + k * 5, none⟩) HC.out.1 (by simp)).trans HC.out.2.1
        have e1 := (HK.out.cell (p := ⟨xb, xo + k * 5 + 1, none⟩) HC.out.1 (by simp)).trans HC.out.2.2
        generalize g.getD p 0 = who at *
        have HP := hid hp
        clear hp
        go_wp2_with fail
        refine (within_any u _ _ hgp (by omega)).mono ?_
        rintro e w' ⟨rfl, rfl⟩
        rw [HP.out]
        go_wp2_with fail
        refine (within_any d 4 _ (by omega) (by omega)).mono ?_
        rintro e w' ⟨rfl, rfl⟩
        generalize d % 4 = dd at *
        go_upto_block 4 with fail
        go_cut [] (fun wx => ∃ l2 : List TRow, TableAt wx b rb l2 ∧ OwnU wx w1.heap.size (.slice (some ⟨gb, 0, none⟩) g.length cap) g ∧ Fr n (k + 1) l2 g ∧ Keeps [] w wx ∧ w1.heap.size ≤ wx.heap.size)
        case first =>
          by_cases d0 : dd = 0
          · subst d0
            go_wp2_with fail
            refine (loose_any b rb l who _ HT.out hwho).mono ?_
            rintro e w4 ⟨v4, rfl, _, hT4, hK4⟩
            go_wp2_with fail
            go_meet
            case rel => exact ⟨_, hT4, HO.out.keeps hK4 HX2.out, HF.out.sm (sm_loose l who), HK.out.drop hK4 HX.out, Nat.le_trans HS.out hK4.size⟩
          · by_cases d1 : dd = 1
            · subst d1
              go_wp2_with fail
              refine (reap_any b rb l who _ HT.out hwho).mono ?_
              rintro e w4 ⟨v4, rfl, _, hT4, hK4⟩
              go_wp2_with fail
              go_meet
              case rel => exact ⟨_, hT4, HO.out.keeps hK4 HX2.out, HF.out.sm (sm_reap l who), HK.out.drop hK4 HX.out, Nat.le_trans HS.out hK4.size⟩
            · have b0 : (dd == 0) = false := by simpa using d0
              have b1 : (dd == 1) = false := by simpa using d1
              clear d0 d1
              go_wp2_with fail
              go_meet
              case rel => exact ⟨_, HT.out, HO.out, HF.out, HK.out, HS.out⟩
        case rest =>
          obtain ⟨l2, hT2, hO2, hF2, hK2, hS2⟩ := hcut
          have HO2 := hid hO2
          have HF2 := hid hF2
          clear hO2 hF2
          go_wp2_with fail
          refine (end_any b rb l2 who 1 _ hT2 hwho).mono ?_
          rintro e w5 ⟨v5, rfl, _, hT5, hK5⟩
          have hO5 := HO2.out.keeps hK5 HX2.out
          have hS5 := Nat.le_trans hS2 hK5.size
          have hK5 := hK2.drop hK5 HX.out
          have hF5 := HF2.out.sm (sm_end l2 who 1)
          generalize (endF l2 who 1).2 = l5 at *
          have HO5 := hid hO5
          have HF5 := hid hF5
          clear hO5 hF5
          go_wp2_with fail
          refine (leave_any b rb l5 who _ hT5 hwho).mono ?_
          rintro e w6 ⟨v6, rfl, _, hT6, hK6⟩
          have hO6 := HO5.out.keeps hK6 HX2.out
          have hS6 := Nat.le_trans hS5 hK6.size
          have hK6 := hK5.drop hK6 HX.out
          have hF6 := HF5.out.sm (sm_leave l5 who)
          generalize (leaveF l5 who).2 = l6 at *
          have HO6 := hid hO6
          have HF6 := hid hF6
          clear hO6 hF6
          go_wp2_with fail
          refine (all_any b rb l6 _ hT6).mono ?_
          rintro e w7 ⟨v7, rfl, hown, hK7⟩
          obtain ⟨ta, tcap, rfl⟩ := len_form hown
          have HOW := hid hown
          have hL64 := (show (threads l6).length ≤ 64 from Nat.le_trans (List.length_filter_le _ _) hT6.2.2.2)
          have HR7 := hid (show OwnU w7 w1.heap.size (.slice (some ⟨gb, 0, none⟩) g.length cap) g ∧ TableAt w7 b rb l6 ∧ Keeps [] w w7 ∧ w1.heap.size ≤ w7.heap.size from ⟨HO6.out.keeps hK7 (by simp), hT6.keeps hK7 (by simp) (by simp), hK6.trans hK7, Nat.le_trans hS6 hK7.size⟩)
          generalize hTL : (threads l6).length = tl at *
          have HTL := hid hTL
          clear hown hTL hT6 hK6 hK7 hK5 hK2
          go_wp2_with fail
          go_loopw [14] (fun s wy => ∃ x : Nat, x ≤ tl ∧ s = .int .i64 x ∧ Keeps [] w7 wy) (fun s _ => (tl - (intOf s).toNat))
          case atStart => exact ⟨0, by omega, rfl, Keeps.refl _ _⟩
          case round =>
            obtain ⟨x, hx, rfl, hKy⟩ := hrel
            by_cases hxl : x < tl
            · have HXL := hid hxl
              go_wp2_with fail
              go_loopw [15] (fun s wz => ∃ y : Nat, y ≤ x ∧ s = .int .i64 y ∧ Keeps [] w7 wz) (fun s _ => (x - (intOf s).toNat))
              case atStart => exact ⟨0, by omega, rfl, hKy⟩
              case round =>
                obtain ⟨y, hy, rfl, hKz⟩ := hrel
                by_cases hyl : y < x
                · obtain ⟨rx, hrx⟩ : ∃ r, (threads l6)[x]? = some r := ⟨_, List.getElem?_eq_getElem (by have := HTL.out; omega)⟩
                  obtain ⟨ry, hry⟩ : ∃ r, (threads l6)[y]? = some r := ⟨_, List.getElem?_eq_getElem (by have := HTL.out; omega)⟩
                  obtain ⟨tb, rfl, htc⟩ := threads_at HOW.out (by omega)
                  have cx := (hKz.cell (p := ⟨tb, x * 7, none⟩) (lt_of_cell (htc x rx hrx)) (by simp)).trans (htc x rx hrx)
                  have cy := (hKz.cell (p := ⟨tb, y * 7, none⟩) (lt_of_cell (htc y ry hry)) (by simp)).trans (htc y ry hry)
                  have hne := HF6.out.apart hyl hrx hry
                  have HYL := hid hyl
                  clear htc hrx hry
                  generalize rx.id = ix at *
                  generalize ry.id = iy at *
                  go_upto_region 35 with fail
                  go_quiet (fail)
                  go_wp2_with fail
                  go_roundw
                  case rel => exact ⟨y + 1, by omega, by go_num, hKz.drewN _⟩
                  case measure => simp [intOf]; omega
                · obtain rfl : y = x := by omega
                  go_wp2_with fail
                  go_roundw
                  case rel => exact ⟨y + 1, by omega, by go_num, hKz⟩
                  case measure => simp [intOf]; omega
            · obtain rfl : x = tl := by omega
              go_wp2_with fail
              go_roundw
              case rel => exact ⟨k + 1, l6, g, _, _, by omega, by omega, by go_num, rfl, HR7.out.1.keeps hKy (by simp), HR7.out.2.1.keeps hKy (by simp) (by simp), HF6.out, HR7.out.2.2.1.trans hKy, Nat.le_trans HR7.out.2.2.2 hKy.size⟩
              case measure => simp [intOf]; omega
      · obtain ⟨F1, F2, F3, F4⟩ := hF.born (by omega) (by omega) hr 9
        have hbb := born_ok b rb l i r 9 wr hTR hr hf hall
        have HF1 := hid F1
        have HF2 := hid F2
        have HO := hid hO
        clear hF hO F1 F2 hr hf hall
        generalize (bornRow r i 9).id = x at *
        generalize l.set i (bornRow r i 9) = l2b at *
        go_wp2_with fail
        refine hbb.mono ?_
        rintro e w3 ⟨rfl, hT3, hK3⟩
        have hO3 := HO.out.keeps hK3 HX2.out
        have hKw := hKR.drop hK3 HX.out
        clear hbb hTR
        go_wp2_with fail
        go_loopw [11] (fun s w4 => ∃ j : Nat, j ≤ g.length ∧ s = .int .i64 j ∧ Keeps [] w3 w4) (fun s _ => (g.length - (intOf s).toNat))
        case atStart => exact ⟨0, by omega, rfl, Keeps.refl _ _⟩
        case round =>
          obtain ⟨j, hj, rfl, hK4⟩ := hrel
          by_cases hjl : j < g.length
          · obtain ⟨gb, rfl, hgc⟩ := hO3.elems (by omega)
            have cj := (hK4.cell (p := ⟨gb, j, none⟩) (lt_of_cell (hgc j hjl)) (by simp)).trans (hgc j hjl)
            have hne : (g.getD j 0 == x) = false := by
              have hm : g.getD j 0 ∈ g := by simp [List.getD, hjl]
              simp only [beq_eq_false_iff_ne, ne_eq]
              intro he
              exact HF2.out (he ▸ hm)
            clear hgc
            generalize g.getD j 0 = y at *
            go_wp2_with fail
            go_roundw
            case rel => exact ⟨j + 1, by omega, by go_num, hK4⟩
            case measure => simp [intOf]; omega
          · obtain rfl : j = g.length := by omega
            have hx0 : (x == 0) = false := by simp; omega
            have hO4 := hO3.keeps hK4 (by simp)
            have HT4 := hid (hT3.keeps hK4 (by simp) (by simp))
            have HK4 := hid (hKw.trans hK4)
            have HO4 := hid hO4
            have HW4 := hid (Nat.le_trans hSR (Nat.le_trans hK3.size hK4.size))
            clear hO3 hO4 hT3 hKw hK4
            go_wp2_with (at_builtin; refine wpList_append_own _ rfl (.tmp 60) (.tmp 62) 40 rfl w1.heap.size 34 i0 (.int .u64 0) 1 8 Tryd.underlying40 hi hz0 hz1 hz2 rfl (by decide) _ _ _ rfl (HO4.out.alloc _) ⟨wr.heap.size, 0, none⟩ 1 1 [.int .u64 x] rfl rfl ?c1 ?c2 ?c3 ?c4 ?c5 ?_)
            case c1 => intro j y hy; match j, hy with | 0, hy => simp at hy; subst hy; simp [Addr.add] | j + 1, hy => simp at hy
            case c2 => intro y hy; simp at hy; subst hy; rfl
            case c3 => unfold maxLen; omega
            case c4 => omega
            case c5 => have := HK4.out.size; have := HW4.out; simp; omega
            intro v2 w3b hown' hgrow _
            have hGK := grown_list hgrow
            have hGR : Keeps [] w w3b ∧ TableAt w3b b rb l2b ∧ w1.heap.size ≤ w3b.heap.size := by
              have hin : ∀ z, z ∈ (Value.slice a g.length cap).ownBlock.toList → w1.heap.size ≤ z := by
                intro z hz
                exact (World.ownsRow.lt HO4.out z (by simpa using hz)).1
              have hb1 := HB.out
              refine ⟨(HK4.out.alloc _).drop hGK (fun z hz => Or.inr (by have := hin z hz; omega)), (HT4.out.keeps ((Keeps.refl [] _).alloc _) (by simp) (by simp)).keeps hGK (fun hm => by have := hin _ hm; omega) (fun hm => by have := hin _ hm; omega), ?_⟩
              have := hGK.size
              have := HW4.out
              simp at *
              omega
            obtain ⟨a2, cap2, rfl⟩ := len_form hown'
            have HS := hid hGR.2.2
            have HT := hid hGR.2.1
            have HK := hid hGR.1
            have HO : Hid (OwnU w3b w1.heap.size (.slice a2 (g ++ [x]).length cap2) (g ++ [x])) := by
              have e : (g ++ [x]).length = g.length + 1 := by simp
              unfold OwnU
              rw [e]
              exact hid (by simpa using hown')
            have HF := HF1
            generalize hG2 : g ++ [x] = g2 at *
            have e2 : g.length + 1 = g2.length := by rw [← hG2]; simp
            rw [e2]
            clear hG2 hown' hgrow hGR hGK e2
            have hgp : 1 ≤ (g2.length : Int) := by
              have := (HF.out.some_).resolve_left (by omega)
              have : g2.length ≠ 0 := fun h => this (List.length_eq_zero_iff.1 h)
              omega
            have hgl2 : g2.length ≤ 81 := by have := HF.out.most; omega
            have h0 : ((g2.length : Int) == 0) = false := by simp only [beq_eq_false_iff_ne, ne_eq]; omega
            obtain ⟨p, hp, hpl⟩ : ∃ p : Nat, u % (g2.length : Int) = (p : Int) ∧ p < g2.length := ⟨(u % (g2.length : Int)).toNat, by have := Int.emod_nonneg u (show (g2.length : Int) ≠ 0 by omega); omega, by have := Int.emod_lt_of_pos u (show 0 < (g2.length : Int) by omega); have := Int.emod_nonneg u (show (g2.length : Int) ≠ 0 by omega); omega⟩
            obtain ⟨gb, rfl, hgc⟩ := HO.out.elems (by omega)
            have cp := hgc p hpl
            have hwho : 0 ≤ g2.getD p 0 := by
              have hm : g2.getD p 0 ∈ g2 := by simp [List.getD, hpl]
              obtain ⟨i2, r2, m2, _, g1, _, g3⟩ := HF.out.given _ hm
              omega
            clear hgc
            have e0 := (HK.out.cell (p := ⟨xb, xo + k * 5, none⟩) HC.out.1 (by simp)).trans HC.out.2.1
            have e1 := (HK.out.cell (p := ⟨xb, xo + k * 5 + 1, none⟩) HC.out.1 (by simp)).trans HC.out.2.2
            generalize g2.getD p 0 = who at *
            have HP := hid hp
            clear hp
            go_wp2_with fail
            refine (within_any u _ _ hgp (by omega)).mono ?_
            rintro e w' ⟨rfl, rfl⟩
            rw [HP.out]
            go_wp2_with fail
            refine (within_any d 4 _ (by omega) (by omega)).mono ?_
            rintro e w' ⟨rfl, rfl⟩
            generalize d % 4 = dd at *
            go_upto_block 4 with fail
            go_cut [] (fun wx => ∃ l2 : List TRow, TableAt wx b rb l2 ∧ OwnU wx w1.heap.size (.slice (some ⟨gb, 0, none⟩) g2.length cap2) g2 ∧ Fr n (k + 1) l2 g2 ∧ Keeps [] w wx ∧ w1.heap.size ≤ wx.heap.size)
            case first =>
              by_cases d0 : dd = 0
              · subst d0
                go_wp2_with fail
                refine (loose_any b rb l2b who _ HT.out hwho).mono ?_
                rintro e w4 ⟨v4, rfl, _, hT4, hK4⟩
                go_wp2_with fail
                go_meet
                case rel => exact ⟨_, hT4, HO.out.keeps hK4 HX2.out, HF.out.sm (sm_loose l2b who), HK.out.drop hK4 HX.out, Nat.le_trans HS.out hK4.size⟩
              · by_cases d1 : dd = 1
                · subst d1
                  go_wp2_with fail
                  refine (reap_any b rb l2b who _ HT.out hwho).mono ?_
                  rintro e w4 ⟨v4, rfl, _, hT4, hK4⟩
                  go_wp2_with fail
                  go_meet
                  case rel => exact ⟨_, hT4, HO.out.keeps hK4 HX2.out, HF.out.sm (sm_reap l2b who), HK.out.drop hK4 HX.out, Nat.le_trans HS.out hK4.size⟩
                · have b0 : (dd == 0) = false := by simpa using d0
                  have b1 : (dd == 1) = false := by simpa using d1
                  clear d0 d1
                  go_wp2_with fail
                  go_meet
                  case rel => exact ⟨_, HT.out, HO.out, HF.out, HK.out, HS.out⟩
            case rest =>
              obtain ⟨l2, hT2, hO2, hF2, hK2, hS2⟩ := hcut
              have HO2 := hid hO2
              have HF2 := hid hF2
              clear hO2 hF2
              go_wp2_with fail
              refine (end_any b rb l2 who 1 _ hT2 hwho).mono ?_
              rintro e w5 ⟨v5, rfl, _, hT5, hK5⟩
              have hO5 := HO2.out.keeps hK5 HX2.out
              have hS5 := Nat.le_trans hS2 hK5.size
              have hK5 := hK2.drop hK5 HX.out
              have hF5 := HF2.out.sm (sm_end l2 who 1)
              generalize (endF l2 who 1).2 = l5 at *
              have HO5 := hid hO5
              have HF5 := hid hF5
              clear hO5 hF5
              go_wp2_with fail
              refine (leave_any b rb l5 who _ hT5 hwho).mono ?_
              rintro e w6 ⟨v6, rfl, _, hT6, hK6⟩
              have hO6 := HO5.out.keeps hK6 HX2.out
              have hS6 := Nat.le_trans hS5 hK6.size
              have hK6 := hK5.drop hK6 HX.out
              have hF6 := HF5.out.sm (sm_leave l5 who)
              generalize (leaveF l5 who).2 = l6 at *
              have HO6 := hid hO6
              have HF6 := hid hF6
              clear hO6 hF6
              go_wp2_with fail
              refine (all_any b rb l6 _ hT6).mono ?_
              rintro e w7 ⟨v7, rfl, hown, hK7⟩
              obtain ⟨ta, tcap, rfl⟩ := len_form hown
              have HOW := hid hown
              have hL64 := (show (threads l6).length ≤ 64 from Nat.le_trans (List.length_filter_le _ _) hT6.2.2.2)
              have HR7 := hid (show OwnU w7 w1.heap.size (.slice (some ⟨gb, 0, none⟩) g2.length cap2) g2 ∧ TableAt w7 b rb l6 ∧ Keeps [] w w7 ∧ w1.heap.size ≤ w7.heap.size from ⟨HO6.out.keeps hK7 (by simp), hT6.keeps hK7 (by simp) (by simp), hK6.trans hK7, Nat.le_trans hS6 hK7.size⟩)
              generalize hTL : (threads l6).length = tl at *
              have HTL := hid hTL
              clear hown hTL hT6 hK6 hK7 hK5 hK2
              go_wp2_with fail
              go_loopw [14] (fun s wy => ∃ x : Nat, x ≤ tl ∧ s = .int .i64 x ∧ Keeps [] w7 wy) (fun s _ => (tl - (intOf s).toNat))
              case atStart => exact ⟨0, by omega, rfl, Keeps.refl _ _⟩
              case round =>
                obtain ⟨x, hx, rfl, hKy⟩ := hrel
                by_cases hxl : x < tl
                · have HXL := hid hxl
                  go_wp2_with fail
                  go_loopw [15] (fun s wz => ∃ y : Nat, y ≤ x ∧ s = .int .i64 y ∧ Keeps [] w7 wz) (fun s _ => (x - (intOf s).toNat))
                  case atStart => exact ⟨0, by omega, rfl, hKy⟩
                  case round =>
                    obtain ⟨y, hy, rfl, hKz⟩ := hrel
                    by_cases hyl : y < x
                    · obtain ⟨rx, hrx⟩ : ∃ r, (threads l6)[x]? = some r := ⟨_, List.getElem?_eq_getElem (by have := HTL.out; omega)⟩
                      obtain ⟨ry, hry⟩ : ∃ r, (threads l6)[y]? = some r := ⟨_, List.getElem?_eq_getElem (by have := HTL.out; omega)⟩
                      obtain ⟨tb, rfl, htc⟩ := threads_at HOW.out (by omega)
                      have cx := (hKz.cell (p := ⟨tb, x * 7, none⟩) (lt_of_cell (htc x rx hrx)) (by simp)).trans (htc x rx hrx)
                      have cy := (hKz.cell (p := ⟨tb, y * 7, none⟩) (lt_of_cell (htc y ry hry)) (by simp)).trans (htc y ry hry)
                      have hne := HF6.out.apart hyl hrx hry
                      have HYL := hid hyl
                      clear htc hrx hry
                      generalize rx.id = ix at *
                      generalize ry.id = iy at *
                      go_upto_region 35 with fail
                      go_quiet (fail)
                      go_wp2_with fail
                      go_roundw
                      case rel => exact ⟨y + 1, by omega, by go_num, hKz.drewN _⟩
                      case measure => simp [intOf]; omega
                    · obtain rfl : y = x := by omega
                      go_wp2_with fail
                      go_roundw
                      case rel => exact ⟨y + 1, by omega, by go_num, hKz⟩
                      case measure => simp [intOf]; omega
                · obtain rfl : x = tl := by omega
                  go_wp2_with fail
                  go_roundw
                  case rel => exact ⟨k + 1, l6, g2, _, _, by omega, by omega, by go_num, rfl, HR7.out.1.keeps hKy (by simp), HR7.out.2.1.keeps hKy (by simp) (by simp), HF6.out, HR7.out.2.2.1.trans hKy, Nat.le_trans HR7.out.2.2.2 hKy.size⟩
                  case measure => simp [intOf]; omega
    · have hcase : k = len ∨ (k < len ∧ k = 80) := by omega
      rcases hcase with hcl | ⟨hl1, hl2⟩
      all_goals
        go_wp2_with fail
        refine (awake_any _ (HG.out.keeps hKR (by simp))).mono ?_
        rintro e w11 ⟨rfl, hK11⟩
        go_wp2_with fail
        go_ret
        exact ⟨rfl, (hKR.trans hK11).below (Nat.le_refl _) (by simp)⟩
end Go.Proofs.YtghgfopcnaoaiaaDoor
