/-
  The package alloc: Get that goes. (Printed by gen_al2.py.)
-/
import Derived.Test.YtmciclhifcjoiaaDoorAl2
namespace Go.Proofs.YtmciclhifcjoiaaDoor
open Go.RowKit

/-- The row behind Get: one more, the rest moved up. -/
theorem ins_cells (l : List Bk) (sp : List Value) (i : Nat) (hi : i < l.length) (b : Bk) :
    (((splice ((l ++ [bk0]).flatMap Bk.cells ++ sp) ((i + 1) * 3) ((l.drop i).flatMap Bk.cells)).toArray.setIfInBounds (i * 3) (.int .i64 b.pos)).setIfInBounds (i * 3 + 1) (.int .i64 b.n)).setIfInBounds (i * 3 + 2) (.int .i64 b.wd) =
      ((l.take i ++ (b :: l.drop i)).flatMap Bk.cells ++ sp).toArray := by
  have e1 : i + 1 + (l.drop i).length = l.length + 1 := by simp; omega
  rw [flat_splice Bk.cells_length (l ++ [bk0]) (l.drop i) sp (i + 1) (by rw [e1]; simp)]
  have e2 : (l ++ [bk0]).drop (i + 1 + (l.drop i).length) = [] := by rw [e1]; simp
  have e3 : (l ++ [bk0]).take (i + 1) = l.take i ++ [l[i]] := by
    rw [List.take_append_of_le_length (by omega), List.take_add_one, List.getElem?_eq_getElem hi]
    rfl
  rw [e2, e3, List.append_nil]
  have e4 : ((l.take i ++ [l[i]] ++ l.drop i).flatMap Bk.cells ++ sp) = (l.take i).flatMap Bk.cells ++ ((l[i]).cells ++ ((l.drop i).flatMap Bk.cells ++ sp)) := by
    rw [List.flatMap_append, List.flatMap_append]
    simp only [List.flatMap_cons, List.flatMap_nil, List.append_nil, List.append_assoc]
  have e5 : ((l.take i ++ (b :: l.drop i)).flatMap Bk.cells ++ sp) = (l.take i).flatMap Bk.cells ++ (b.cells ++ ((l.drop i).flatMap Bk.cells ++ sp)) := by simp [List.flatMap_append]
  rw [e4, e5]
  exact set3 _ _ _ _ _ _ _ _ _ (by rw [flat_length Bk.cells_length]; simp; omega)
theorem ins_last (l : List Bk) (sp : List Value) (b : Bk) :
    ((((l ++ [bk0]).flatMap Bk.cells ++ sp).toArray.setIfInBounds (l.length * 3) (.int .i64 b.pos)).setIfInBounds (l.length * 3 + 1) (.int .i64 b.n)).setIfInBounds (l.length * 3 + 2) (.int .i64 b.wd) =
      ((l.take l.length ++ (b :: l.drop l.length)).flatMap Bk.cells ++ sp).toArray := by
  have e4 : ((l ++ [bk0]).flatMap Bk.cells ++ sp) = l.flatMap Bk.cells ++ (bk0.cells ++ sp) := by simp [List.flatMap_append]
  have e5 : ((l.take l.length ++ (b :: l.drop l.length)).flatMap Bk.cells ++ sp) = l.flatMap Bk.cells ++ (b.cells ++ sp) := by simp [List.flatMap_append]
  rw [e4, e5]
  exact set3 _ _ _ _ _ _ _ _ _ (by rw [flat_length Bk.cells_length])

theorem wrap_small (k : Nat) (h : k ≤ 1000000) : IntKind.i64.wrap ((k : Int) + 1) = (k : Int) + 1 := by
  rw [IntKind.wrap_i64]; omega

theorem copy_facts (l : List Bk) (sp : List Value) (k len g : Nat) (w : World) (hL : l.length = len) (hkl : k ≤ len) (HG : Hid (Blk w g ((l ++ [bk0]).flatMap Bk.cells ++ sp).toArray 66)) :
    Hid (((l.drop k).flatMap Bk.cells).length = Nat.min (len + 1 - k) (len - k) * 3) ∧
    Hid (0 < ((l.drop k).flatMap Bk.cells).length → ∃ ad, (some (⟨g, k * 3, none⟩ : Addr)) = some ad ∧ ∀ j v, ((l.drop k).flatMap Bk.cells)[j]? = some v → w.cell? (ad.add j) = some v) ∧
    Hid ((k + 1) * 3 + ((l.drop k).flatMap Bk.cells).length ≤ ((l ++ [bk0]).flatMap Bk.cells ++ sp).length) ∧
    Hid (∀ v ∈ (l.drop k).flatMap Bk.cells, v.oneCell' = true) ∧
    Hid (∀ y : Bk, (((splice ((l ++ [bk0]).flatMap Bk.cells ++ sp) ((k + 1) * 3) ((l.drop k).flatMap Bk.cells)).toArray.setIfInBounds (k * 3) (.int .i64 y.pos)).setIfInBounds (k * 3 + 1) (.int .i64 y.n)).setIfInBounds (k * 3 + 2) (.int .i64 y.wd) =
      ((l.take k ++ (y :: l.drop k)).flatMap Bk.cells ++ sp).toArray) ∧
    Hid (k = len → ¬ 0 < ((l.drop k).flatMap Bk.cells).length) ∧
    Hid (k * 3 + 2 < (splice ((l ++ [bk0]).flatMap Bk.cells ++ sp) ((k + 1) * 3) ((l.drop k).flatMap Bk.cells)).length) := by
  have hcs : ((l.drop k).flatMap Bk.cells).length = (len - k) * 3 := by rw [flat_length Bk.cells_length, List.length_drop, hL]
  have hfit : (k + 1) * 3 + ((l.drop k).flatMap Bk.cells).length ≤ ((l ++ [bk0]).flatMap Bk.cells ++ sp).length := by
    rw [hcs, List.length_append, flat_length Bk.cells_length, List.length_append, hL]
    simp; omega
  refine ⟨hid ?_, hid ?_, hid hfit, hid ?_, hid (fun y => ?_), hid ?_, hid ?_⟩
  · rw [hcs]
    have e : Nat.min (len + 1 - k) (len - k) = len - k := Nat.min_eq_right (by omega)
    rw [e]
  · refine fun _ => ⟨_, rfl, fun j v hj => ?_⟩
    rw [Go.WideShapes.add_plain]
    refine HG.out.cell ?_
    have e : (l.drop k).flatMap Bk.cells = (l.flatMap Bk.cells).drop (k * 3) := (flat_drop Bk.cells_length l k).symm
    rw [e, List.getElem?_drop] at hj
    rw [List.flatMap_append, List.append_assoc, List.getElem?_toArray, List.getElem?_append_left (List.getElem?_eq_some_iff.1 hj).1]
    exact hj
  · intro v hv
    obtain ⟨y, _, hy⟩ := List.mem_flatMap.1 hv
    simp [Bk.cells] at hy
    rcases hy with rfl | rfl | rfl <;> rfl
  · rcases Nat.lt_or_ge k l.length with hk | hk
    · exact ins_cells l sp k hk y
    · obtain rfl : k = l.length := by omega
      have e : splice ((l ++ [bk0]).flatMap Bk.cells ++ sp) ((l.length + 1) * 3) ((l.drop l.length).flatMap Bk.cells) = (l ++ [bk0]).flatMap Bk.cells ++ sp := by simp [splice]
      rw [e]
      exact ins_last l sp y
  · intro h
    rw [hcs, h]
    simp
  · rw [length_splice _ _ _ hfit]
    omega

theorem blk_some {w : World} {b : Nat} {c : List Value} {t : TypeId} (h : Blk w b c.toArray t) {i : Nat} (hi : i < c.length) : ∃ v, w.cell? ⟨b, i, none⟩ = some v :=
  ⟨_, h.cell (by rw [List.getElem?_toArray]; exact List.getElem?_eq_getElem hi)⟩

/-- What is left behind Get's last store. -/
theorem get_final {w w4 w5 : World} {base ab b cb wb g len cap2 k : Nat} {x : AS} {y : Bk} {s' : MS} {sp CUR CS : List Value} {lv : Value} (hL : x.l.length = len) (hk : k ≤ len) (hbg : base ≤ g) (hab : ab < base) (hc1 : len + 1 ≤ cap2) (hc2 : cap2 ≤ maxLen)
    (hc3 : (x.l.flatMap Bk.cells ++ bk0.cells).length + sp.length = cap2 * 3)
    (hlow : b < base ∧ cb < base ∧ wb < base ∧ ab ≠ b ∧ ab ≠ cb ∧ ab ≠ wb)
    (HB : Blk w5 ab #[.pointer (some ⟨b, 0, none⟩), .int .i64 x.fr, .int .i64 x.til, .slice (some ⟨g, 0, none⟩) (len + 1) cap2] 108)
    (HG : Blk w5 g (splice CUR ((k + 1) * 3) CS).toArray 66) (HK5 : Keeps [g] w4 w5) (HM : MemAt w4 b cb wb s') (HK4 : Keeps ([ab, b, cb, wb] ++ lv.ownBlock.toList) w w4) (hge : lv.ownBlock = some g ∨ w.heap.size ≤ g)
    (hic : (((splice CUR ((k + 1) * 3) CS).toArray.setIfInBounds (k * 3) (.int .i64 y.pos)).setIfInBounds (k * 3 + 1) (.int .i64 y.n)).setIfInBounds (k * 3 + 2) (.int .i64 y.wd) =
      ((x.l.take k ++ (y :: x.l.drop k)).flatMap Bk.cells ++ sp).toArray) :
    ∃ lv', AllocAt (((w5.setCell ⟨g, k * 3, none⟩ (.int .i64 y.pos)).setCell ⟨g, k * 3 + 1, none⟩ (.int .i64 y.n)).setCell ⟨g, k * 3 + 2, none⟩ (.int .i64 y.wd)) base ab b lv' (x.ins k y) ∧
      MemAt (((w5.setCell ⟨g, k * 3, none⟩ (.int .i64 y.pos)).setCell ⟨g, k * 3 + 1, none⟩ (.int .i64 y.n)).setCell ⟨g, k * 3 + 2, none⟩ (.int .i64 y.wd)) b cb wb s' ∧
      Keeps ([ab, b, cb, wb] ++ lv.ownBlock.toList) w (((w5.setCell ⟨g, k * 3, none⟩ (.int .i64 y.pos)).setCell ⟨g, k * 3 + 1, none⟩ (.int .i64 y.n)).setCell ⟨g, k * 3 + 2, none⟩ (.int .i64 y.wd)) ∧
      ∀ q, lv'.ownBlock = some q → lv.ownBlock = some q ∨ w.heap.size ≤ q := by
  have hne : ab ≠ g := by omega
  have hlen : (x.l.take k ++ (y :: x.l.drop k)).length = len + 1 := by simp; omega
  have K6 : Keeps [g] w4 (((w5.setCell ⟨g, k * 3, none⟩ (.int .i64 y.pos)).setCell ⟨g, k * 3 + 1, none⟩ (.int .i64 y.n)).setCell ⟨g, k * 3 + 2, none⟩ (.int .i64 y.wd)) := ((HK5.set (by simp) _).set (by simp) _).set (by simp) _
  refine ⟨.slice (some ⟨g, 0, none⟩) (len + 1) cap2, ⟨hab, ((HB.other (by simpa using hne.symm) _).other (by simpa using hne.symm) _).other (by simpa using hne.symm) _, ?_⟩, HM.keeps K6 (by simp; omega) (by simp; omega) (by simp; omega), HK4.drop K6 ?_, ?_⟩
  · have h := ((HG.set (k * 3) (.int .i64 y.pos)).set (k * 3 + 1) (.int .i64 y.n)).set (k * 3 + 2) (.int .i64 y.wd)
    rw [hic] at h
    have := owns_of_slots (sz := 3) hbg h (n := len + 1) (by rw [flat_length Bk.cells_length, hlen]) hc1 hc2 (by rw [← hc3, flat_length Bk.cells_length, hlen, List.length_append, flat_length Bk.cells_length, hL, Bk.cells_length]; omega)
    show World.ownsRow _ _ _ _ _ (x.l.take k ++ (y :: x.l.drop k)).length _
    rw [hlen]
    exact this
  · intro z hz
    simp at hz
    subst hz
    rcases hge with h | h
    · left; simp [h]
    · exact .inr h
  · intro q hq
    simp [Value.ownBlock] at hq
    subst hq
    exact hge

theorem grown_list {w w' : World} {v : Value} (hg : w.grownBy w' v.ownBlock) : Keeps v.ownBlock.toList w w' :=
  ⟨hg.os, hg.tape, hg.output, hg.size, fun k hk hn => hg.block k hk (fun e => hn (by rw [← e]; simp))⟩

section
variable (base ab : Nat) (lv : Value) (x : AS) (n wd : Int) (w : World)

set_option maxRecDepth 100000 in
set_option maxHeartbeats 4000000 in
theorem get_ok (b cb wb : Nat) (s s' : MS) (hA : AllocAt w base ab b lv x) (hx : x.ok) (hM : MemAt w b cb wb s) (hbase : base ≤ w.heap.size) (hlow : b < base ∧ cb < base ∧ wb < base ∧ ab ≠ b ∧ ab ≠ cb ∧ ab ≠ wb) (h1 : 1 ≤ n) (h2 : n ≤ 4096) (hv : wd = 32 ∨ wd = 64)
    (i0 : Nat) (hi : i0 ≤ x.l.length) (hgap : n ≤ gapOf x.fr x.l x.til i0) (hbefore : ∀ i, i < i0 → gapOf x.fr x.l x.til i < n)
    (hmp : ∀ w1, MemAt w1 b cb wb s → Calls Tryd.prog 20 #[.pointer (some ⟨b, 0, none⟩), .int .i64 (endOf x.fr x.l i0), .int .i64 n, .int .i64 wd] w1 (MPost w1 b cb wb s' none)) :
    Calls Tryd.prog 32 #[.pointer (some ⟨ab, 0, none⟩), .int .i64 n, .int .i64 wd] w (GetPost w base ab b b cb wb lv x s' i0 n wd none) := by
  obtain ⟨iT, hiT, hz0, hz1, hz2⟩ := info_parts infoBlock
  have HA := hid hA
  have HX := hid hx
  have HN := hid hbefore
  have HGP := hid hgap
  have HM := hid hM
  have HMP := hid hmp
  have HLW := hid hlow
  have HBS := hid hbase
  have hlen := hx.few
  clear hA hx hbefore hgap hM hmp hlow hbase
  generalize hL : x.l.length = len at *
  have HL := hid hL
  clear hL
  have d1 : decide (n < 1) = false := by simp; omega
  have d2 : decide (4096 < n) = false := by simp; omega
  rcases hv with rfl | rfl
  all_goals
    go_enter Tryd.func32, Tryd.ntmps32
    go_wp2_with fail
    go_loopw [8] (fun i wr => ∃ k : Nat, k ≤ i0 ∧ i = .int .i64 k ∧ ∃ q, wr = w.drewN q) (fun i _ => (i0 + 1 - (intOf i).toNat))
    case atStart => exact ⟨0, by omega, rfl, 0, rfl⟩
    case round =>
      obtain ⟨k, hk, rfl, q0, rfl⟩ := hrel
      have hAR := HA.out.drewN q0
      have c3 := hAR.2.1.cell (i := 3) rfl
      have c0 := hAR.2.1.cell (i := 0) rfl
      obtain ⟨a, cap, rfl, hrows⟩ := rows_at hAR.2.2
      rw [HL.out] at c3
      have hAR := hid hAR
      clear hrows
      have hgp := HX.out.chain.gap (i := k) (by rw [HL.out]; omega)
      have hlo := HX.out.lo
      have hhi := HX.out.hi
      by_cases hlt : k < i0
      · have hgn := HN.out k hlt
        unfold gapOf at hgn
        clear c0
        go_wp2_with fail
        refine (end_any base ab b _ x _ hAR.out HX.out k (by rw [HL.out]; omega)).mono ?_
        rintro e w1 ⟨rfl, q, rfl⟩
        go_wp2_with fail
        refine (start_any base ab b _ x _ (HA.out.drewN (q0 + q)) HX.out k (by rw [HL.out]; omega)).mono ?_
        rintro e w1 ⟨rfl, rfl⟩
        generalize startOf x.l x.til k = st at *
        generalize endOf x.fr x.l k = en at *
        have d3 : decide (st - en < n) = true := by simpa using hgn
        go_wp2_with fail
        go_roundw
        case rel => exact ⟨k + 1, by omega, by go_num, q0 + q, rfl⟩
        case measure => simp [intOf]; omega
      · obtain rfl : k = i0 := by omega
        have hgn := HGP.out
        unfold gapOf at hgn
        go_wp2_with fail
        refine (end_any base ab b _ x _ hAR.out HX.out k (by rw [HL.out]; omega)).mono ?_
        rintro e w1 ⟨rfl, q, rfl⟩
        clear c0 c3
        have hAR : Hid (AllocAt ((w.drewN q0).drewN q) base ab b (.slice a x.l.length cap) x) := hid (hAR.out.drewN q)
        have HMR : Hid (MemAt ((w.drewN q0).drewN q) b cb wb s) := hid HM.out
        have HKR : Hid (Keeps [] w ((w.drewN q0).drewN q)) := hid (((Keeps.refl _ _).drewN _).drewN _)
        have HSZ : Hid (((w.drewN q0).drewN q).heap.size = w.heap.size) := hid rfl
        generalize (w.drewN q0).drewN q = wr at *
        have c0 := hAR.out.2.1.cell (i := 0) rfl
        have c3 := hAR.out.2.1.cell (i := 3) rfl
        rw [HL.out] at c3
        go_wp2_with fail
        refine (start_any base ab b _ x _ hAR.out HX.out k (by rw [HL.out]; omega)).mono ?_
        rintro e w1 ⟨rfl, rfl⟩
        generalize startOf x.l x.til k = st at *
        generalize hen : endOf x.fr x.l k = en at *
        have HE := hid hen
        clear hen
        have d3 : decide (st - en < n) = false := by simp; omega
        go_wp2_with fail
        refine (HMP.out _ HMR.out).mono ?_
        rintro e w2 ⟨u, rfl, hEf, hM2, hK2⟩
        obtain rfl : u = .nilIface := hEf [] w2 (Keeps.refl _ _) (by simp)
        have hlw := HLW.out
        have hs2 := hK2.size
        have hsz := HSZ.out
        have hA2 := hAR.out.keeps hK2 (by simp; omega) (by simp; omega)
        have e3 := hA2.2.1.cell (i := 3) rfl
        have e0 := hA2.2.1.cell (i := 0) rfl
        rw [HL.out] at e3
        have HO : Hid (w2.ownsRow base 66 3 (.slice a len cap) len (x.l.flatMap Bk.cells)) := by
          have h := hA2.2.2
          rw [HL.out] at h
          exact hid h
        have HB2 := hid hA2.2.1
        have HM2 := hid hM2
        have HK2 := hid hK2
        have hwr : base ≤ w2.heap.size := by have := HBS.out; omega
        clear c0 c3 hA2 hM2 hK2 hlw hgp hgn d3 hEf
        go_wp2_with (at_builtin; refine wpList_append_where rfl (.tmp 63) (.tmp 65) 63 rfl base 66 iT (.agg bk0.cells.toArray) 3 24 Tryd.underlying63 hiT hz0 hz1 hz2 rfl (by decide) _ _ _ rfl (HO.out.alloc _) ⟨w2.heap.size, 0, none⟩ 1 1 bk0.cells rfl rfl ?c1 ?c2 ?c3 ?c4 ?c5 ?_)
        case c1 => intro j y hy; match j, hy with | 0, hy => simp [Bk.cells] at hy; subst hy; simp [Addr.add, bk0] | 1, hy => simp [Bk.cells] at hy; subst hy; simp [Addr.add, bk0] | 2, hy => simp [Bk.cells] at hy; subst hy; simp [Addr.add, bk0] | j + 3, hy => simp [Bk.cells] at hy
        case c2 => intro y hy; simp [Bk.cells] at hy; rcases hy with rfl | rfl | rfl <;> rfl
        case c3 => unfold maxLen; omega
        case c4 => omega
        case c5 => simp; omega
        intro v' w3 hown' hgrow hwhere
        obtain ⟨g, cap2, sp, rfl, hbg, hBg, hc1, hc2, hc3⟩ := run_slots hown'
        have hGK := grown_list hgrow
        have hin : ∀ z, z ∈ (Value.slice a len cap).ownBlock.toList → base ≤ z := by
          intro z hz
          exact (World.ownsRow.lt HO.out z (by simpa using hz)).1
        have hab : ab < base := hAR.out.1
        have hB3 := (HB2.out.alloc (.cells #[.int .i64 0, .int .i64 0, .int .i64 0] 66)).keeps hGK (fun hm => by have := hin _ hm; omega)
        have c3 := hB3.cell (i := 3) rfl
        have f3 := hB3.frozen 3
        have hne : ab ≠ g := by omega
        have hge := hid (hwhere g rfl)
        have hM3 := (HM2.out.alloc (.cells #[.int .i64 0, .int .i64 0, .int .i64 0] 66)).keeps hGK (fun hm => by have := hin _ hm; have := HLW.out; omega) (fun hm => by have := hin _ hm; have := HLW.out; omega) (fun hm => by have := hin _ hm; have := HLW.out; omega)
        have hK3 : Keeps ([ab, b, cb, wb] ++ (Value.slice a len cap).ownBlock.toList) w w3 := (((HKR.out.mono (by simp)).trans (HK2.out.mono (by intro z hz; simp at hz ⊢; omega))).alloc _).trans (hGK.mono (by intro z hz; exact List.mem_append_right _ hz))
        have HB4 : Hid (Blk (w3.setCell ⟨ab, 3, none⟩ (.slice (some ⟨g, 0, none⟩) (len + 1) cap2)) ab #[.pointer (some ⟨b, 0, none⟩), .int .i64 x.fr, .int .i64 x.til, .slice (some ⟨g, 0, none⟩) (len + 1) cap2] 108) := hid (hB3.set 3 _)
        have HG4 : Hid (Blk (w3.setCell ⟨ab, 3, none⟩ (.slice (some ⟨g, 0, none⟩) (len + 1) cap2)) g ((x.l ++ [bk0]).flatMap Bk.cells ++ sp).toArray 66) := by
          have h := hBg.other (a := ⟨ab, 3, none⟩) (by simpa using hne) (.slice (some ⟨g, 0, none⟩) (len + 1) cap2)
          rw [List.flatMap_append]
          exact hid (by simpa using h)
        have HM4 : Hid (MemAt (w3.setCell ⟨ab, 3, none⟩ (.slice (some ⟨g, 0, none⟩) (len + 1) cap2)) b cb wb s') := hid (hM3.keeps ((Keeps.refl [ab] _).set (by simp) _) (by have := HLW.out; simp; omega) (by have := HLW.out; simp; omega) (by have := HLW.out; simp; omega))
        have HK4 : Hid (Keeps ([ab, b, cb, wb] ++ (Value.slice a len cap).ownBlock.toList) w (w3.setCell ⟨ab, 3, none⟩ (.slice (some ⟨g, 0, none⟩) (len + 1) cap2))) := hid (hK3.set (by simp) _)
        clear hgrow hown' hin hwhere hM3 hK3
        clear hBg hGK hB3
        go_wp2_with fail
        generalize (w3.setCell ⟨ab, 3, none⟩ (.slice (some ⟨g, 0, none⟩) (len + 1) cap2)) = w4 at *
        clear c3 f3 e0 e3
        have HKL := hid (show k ≤ len from by omega)
        have b1 : k ≤ len := HKL.out
        have b2 : k ≤ len + 1 := by omega
        have b4 : ¬ cap2 = k := by omega
        have b6 : (k : Int) ≤ (len : Int) := by omega
        have b7 : (k : Int) ≤ (len : Int) + 1 := by omega
        have b8 : (0 : Int) ≤ (k : Int) + 1 := by omega
        have B5 := hid (wrap_small k (by omega))
        replace HB4 : Hid (Blk w4.drew ab #[.pointer (some ⟨b, 0, none⟩), .int .i64 x.fr, .int .i64 x.til, .slice (some ⟨g, 0, none⟩) (len + 1) cap2] 108) := hid HB4.out
        replace HG4 : Hid (Blk w4.drew g ((x.l ++ [bk0]).flatMap Bk.cells ++ sp).toArray 66) := hid HG4.out
        replace HM4 : Hid (MemAt w4.drew b cb wb s') := hid HM4.out
        replace HK4 : Hid (Keeps ([ab, b, cb, wb] ++ (Value.slice a len cap).ownBlock.toList) w w4.drew) := hid HK4.out.drew
        obtain ⟨HCN, HPOS, HFIT, HONE, HIC, HZERO, HSZ2⟩ := copy_facts x.l sp k len g w4.drew HL.out HKL.out HG4
        have HNE : Hid (ab ∉ [g]) := hid (by simpa using hne)
        have HBG := hid hbg
        have HAB := hid hab
        have HC1 := hid hc1
        have HC2 := hid hc2
        have HC3 := hid hc3
        have HGE : Hid ((Value.slice a len cap).ownBlock = some g ∨ w.heap.size ≤ g) := hid (hge.out.imp id (fun h => Nat.le_trans (Nat.le_trans (Nat.le_of_eq HSZ.out.symm) HK2.out.size) (Nat.le_trans (by simp) h)))
        clear hbg hab hc2 hc3 hge hne
        generalize (x.l ++ [bk0]).flatMap Bk.cells ++ sp = CUR at *
        generalize (x.l.drop k).flatMap Bk.cells = CS at *
        by_cases hck : cap2 = k + 1
        · have HZ : Hid (¬ 0 < CS.length) := hid (HZERO.out (by omega))
          replace HCN : Hid (CS.length = Nat.min (len + 1 - k) 0 * 3) := hid (by have h := HZ.out; have e : Nat.min (len + 1 - k) 0 = 0 := Nat.min_zero _; rw [e]; omega)
          subst hck
          have b5 := B5.out
          go_region_held3 (fun W => W.cell? ⟨ab, 3, none⟩ = some (.slice (some ⟨g, 0, none⟩) (len + 1) (k + 1))) (exact HB4.out.cell (i := 3) rfl)
            ((refine step_copy_rows rfl (.tmp 75) (.tmp 81) 63 63 rfl 66 3 Tryd.underlying63 sizeBlock (by decide) _ _ _ _ _ _ rfl rfl g ((k + 1) * 3) CUR 66 HG4.out CS HCN.out (fun hh => absurd hh HZ.out) HFIT.out HONE.out ?_; intro w5 HG5 HK5; replace HB4 : Hid (Blk w5 ab #[.pointer (some ⟨b, 0, none⟩), .int .i64 x.fr, .int .i64 x.til, .slice (some ⟨g, 0, none⟩) (len + 1) (k + 1)] 108) := hid (HB4.out.keeps HK5.out HNE.out)))
          have c3 := HB4.out.cell (i := 3) rfl
          obtain ⟨v0, g0⟩ := blk_some HG5.out (show k * 3 < _ from Nat.lt_of_le_of_lt (Nat.le_add_right _ 2) HSZ2.out)
          obtain ⟨v1, g1⟩ := blk_some HG5.out (show k * 3 + 1 < _ from Nat.lt_of_le_of_lt (Nat.le_succ _) HSZ2.out)
          obtain ⟨v2, g2⟩ := blk_some HG5.out HSZ2.out
          have f0 := HG5.out.frozen (k * 3)
          have f1 := HG5.out.frozen (k * 3 + 1)
          have f2 := HG5.out.frozen (k * 3 + 2)
          go_wp2_with fail
          go_ret2
          refine ⟨by rw [HE.out]; rfl, ?_⟩
          rw [HE.out, HL.out]
          exact get_final (y := ⟨en, n, _⟩) HL.out HKL.out HBG.out HAB.out HC1.out HC2.out HC3.out HLW.out HB4.out HG5.out HK5.out HM4.out HK4.out HGE.out (HIC.out _)
        · have b3 := hck
          have b5 := B5.out
          go_region_held3 (fun W => W.cell? ⟨ab, 3, none⟩ = some (.slice (some ⟨g, 0, none⟩) (len + 1) cap2)) (exact HB4.out.cell (i := 3) rfl)
            ((refine step_copy_rows rfl (.tmp 75) (.tmp 81) 63 63 rfl 66 3 Tryd.underlying63 sizeBlock (by decide) _ _ _ _ _ _ rfl rfl g ((k + 1) * 3) CUR 66 HG4.out CS HCN.out (fun hh => ⟨rfl, HPOS.out hh⟩) HFIT.out HONE.out ?_; intro w5 HG5 HK5; replace HB4 : Hid (Blk w5 ab #[.pointer (some ⟨b, 0, none⟩), .int .i64 x.fr, .int .i64 x.til, .slice (some ⟨g, 0, none⟩) (len + 1) cap2] 108) := hid (HB4.out.keeps HK5.out HNE.out)))
          have c3 := HB4.out.cell (i := 3) rfl
          obtain ⟨v0, g0⟩ := blk_some HG5.out (show k * 3 < _ from Nat.lt_of_le_of_lt (Nat.le_add_right _ 2) HSZ2.out)
          obtain ⟨v1, g1⟩ := blk_some HG5.out (show k * 3 + 1 < _ from Nat.lt_of_le_of_lt (Nat.le_succ _) HSZ2.out)
          obtain ⟨v2, g2⟩ := blk_some HG5.out HSZ2.out
          have f0 := HG5.out.frozen (k * 3)
          have f1 := HG5.out.frozen (k * 3 + 1)
          have f2 := HG5.out.frozen (k * 3 + 2)
          go_wp2_with fail
          go_ret2
          refine ⟨by rw [HE.out]; rfl, ?_⟩
          rw [HE.out, HL.out]
          exact get_final (y := ⟨en, n, _⟩) HL.out HKL.out HBG.out HAB.out HC1.out HC2.out HC3.out HLW.out HB4.out HG5.out HK5.out HM4.out HK4.out HGE.out (HIC.out _)
end
end Go.Proofs.YtmciclhifcjoiaaDoor
