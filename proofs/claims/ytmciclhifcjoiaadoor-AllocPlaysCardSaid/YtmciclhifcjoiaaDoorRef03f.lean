/-
  The document's allocator: Get that goes. (Printed by gen_ref03f.py.)
-/
import Derived.Test.YtmciclhifcjoiaaDoorRef03c
import Derived.Test.YtmciclhifcjoiaaDoorApp
namespace Go.Proofs.YtmciclhifcjoiaaDoor
open Go.RowKit

theorem infoRBlock : (Tryd.prog.info? 117).map (fun i => (i.zero, i.size, i.bytes)) = some (some (.agg bk0.cells.toArray), 3, 24) := by kernel_rfl

theorem bk_one (l : List Bk) : ∀ v ∈ l.flatMap Bk.cells, v.oneCell' = true := by
  intro v hv
  obtain ⟨y, _, hy⟩ := List.mem_flatMap.1 hv
  simp [Bk.cells] at hy
  rcases hy with rfl | rfl | rfl <;> rfl

/-- A block's cells, just made. -/
theorem bk_src (y : Bk) (w : World) (t : TypeId) : Src (w.alloc (.cells #[.int .i64 y.pos, .int .i64 y.n, .int .i64 y.wd] t)) 3 (some ⟨w.heap.size, 0, none⟩) 1 y.cells := by
  refine ⟨rfl, fun _ => ⟨_, rfl, fun j u hj => ?_⟩⟩
  have hB := Blk.fresh w #[.int .i64 y.pos, .int .i64 y.n, .int .i64 y.wd] t
  rw [Go.WideShapes.add_plain]
  simp only [Nat.zero_add]
  refine hB.cell ?_
  simpa [Bk.cells] using hj
theorem one_one (y : Bk) : ∀ v ∈ y.cells, v.oneCell' = true := by
  intro v hv
  simp [Bk.cells] at hv
  rcases hv with rfl | rfl | rfl <;> rfl

/-- The sources of a row, cut at k. -/
theorem row_srcs {w : World} {base : Nat} {e : TypeId} {a : Option Addr} {len cap k : Nat} {l : List Bk} (hL : l.length = len) (h : w.ownsRow base e 3 (.slice a len cap) len (l.flatMap Bk.cells)) (hk : k ≤ len) :
    Src w 3 a k ((l.take k).flatMap Bk.cells) ∧ (∀ g, cap ≠ k → a = some ⟨g, 0, none⟩ → Src w 3 (some ⟨g, k * 3, none⟩) (len - k) ((l.drop k).flatMap Bk.cells)) ∧ (cap = k → Src w 3 a 0 ((l.drop k).flatMap Bk.cells) ∧ len = k) := by
  have h0 := h
  rw [← hL] at h hk
  have hc : l.length ≤ cap := by
    have h2 := h0.2
    rcases h2 with ⟨hv, hn⟩ | ⟨g, cap', cur, hv, _, _, hle, _⟩
    · omega
    · cases hv; omega
  have hd := src_drop Bk.cells_length h hk hc
  refine ⟨src_take Bk.cells_length h hk, fun g hne ha => ?_, fun he => ?_⟩
  · rw [if_neg hne, hL, ha] at hd
    have e : Option.map (·.add (k * 3)) (some (⟨g, 0, none⟩ : Addr)) = some ⟨g, k * 3, none⟩ := by
      show some ((⟨g, 0, none⟩ : Addr).add (k * 3)) = _
      rw [Go.WideShapes.add_plain, Nat.zero_add]
    rw [e] at hd
    exact hd
  · have hlk : l.length = k := by omega
    rw [if_pos he, hlk, Nat.sub_self] at hd
    exact ⟨hd, by omega⟩

theorem two_form {w : World} {base n : Nat} {e : TypeId} {a : Option Addr} {len cap : Nat} {xs : List Value} (h : w.ownsRow base e n (.slice a len cap) len xs) : (a = none ∧ len = 0 ∧ cap = 0) ∨ ∃ g, a = some ⟨g, 0, none⟩ ∧ len ≤ cap := by
  rcases h.2 with ⟨hv, hn⟩ | ⟨g, cap', cur, hv, _, _, hle, _⟩
  · cases hv; exact .inl ⟨rfl, hn, rfl⟩
  · cases hv; exact .inr ⟨g, rfl, hle⟩

def RGetPost (w : World) (base rab rb rwb rhb : Nat) (x : AS) (s' : MS) (i : Nat) (n wd : Int) (e : Ending) (w' : World) : Prop :=
  e = .returned (.tuple #[.int .i64 (endOf x.fr x.l i), .pointer none]) ∧ ∃ lv', RAllocAt w' base rab rb lv' (x.ins i ⟨endOf x.fr x.l i, n, wd⟩) ∧ RefAt w' rb rwb rhb s' ∧ Keeps [rab, rb, rwb, rhb] w w' ∧ ∀ g, lv'.ownBlock = some g → w.heap.size ≤ g

/-- Behind the store. -/
theorem rget_final {w w2 w5 : World} {base rab rb rwb rhb len k : Nat} {lv v5 : Value} {x : AS} {y : Bk} {s' : MS} {xs : List Value} {m : Nat} (hL : x.l.length = len) (hk : k ≤ len) (hlow : rb < base ∧ rwb < base ∧ rhb < base ∧ rab ≠ rb ∧ rab ≠ rwb ∧ rab ≠ rhb)
    (hA : RAllocAt w2 base rab rb lv x) (hM : RefAt w2 rb rwb rhb s') (hK2 : Keeps [rb, rwb, rhb] w w2) (hK5 : Keeps [] w2 w5) (hO : w5.ownsRow base 117 3 v5 m xs) (hm : m = len + 1) (hxs : xs = (x.l.take k).flatMap Bk.cells ++ (y.cells ++ (x.l.drop k).flatMap Bk.cells))
    (hfr : ∀ g, v5.ownBlock = some g → w2.heap.size ≤ g) :
    ∃ lv', RAllocAt (w5.setCell ⟨rab, 3, none⟩ v5) base rab rb lv' (x.ins k y) ∧ RefAt (w5.setCell ⟨rab, 3, none⟩ v5) rb rwb rhb s' ∧ Keeps [rab, rb, rwb, rhb] w (w5.setCell ⟨rab, 3, none⟩ v5) ∧ ∀ g, lv'.ownBlock = some g → w.heap.size ≤ g := by
  have hA5 := hA.keeps hK5 (by simp) (by simp)
  have hK6 : Keeps [rab] w5 (w5.setCell ⟨rab, 3, none⟩ v5) := (Keeps.refl _ _).set (by simp) _
  have hsz := hK2.size
  refine ⟨v5, ⟨hA.1, hA5.2.1.set 3 _, ?_⟩, (hM.keeps hK5 (by simp) (by simp) (by simp)).keeps hK6 (by simp; omega) (by simp; omega) (by simp; omega), ?_, fun g hg => by have := hfr g hg; omega⟩
  · have hlen : (x.l.take k ++ (y :: x.l.drop k)).length = m := by simp; omega
    have e : (x.l.take k ++ (y :: x.l.drop k)).flatMap Bk.cells = xs := by rw [hxs]; simp [List.flatMap_append]
    show World.ownsRow _ _ _ _ _ (x.l.take k ++ (y :: x.l.drop k)).length ((x.l.take k ++ (y :: x.l.drop k)).flatMap Bk.cells)
    rw [hlen, e]
    exact ownsRow_keeps hO hK6 (by intro z hz; simp at hz; have := hA.1; omega)
  · exact (((hK2.mono (by intro z hz; simp at hz ⊢; omega)).trans (hK5.mono (by simp))).trans (hK6.mono (by simp)))

set_option maxRecDepth 100000 in
set_option maxHeartbeats 4000000 in
theorem rget_ok (base rab rb rwb rhb : Nat) (lv : Value) (x : AS) (s s' : MS) (n wd : Int) (w : World) (hA : RAllocAt w base rab rb lv x) (hx : x.ok) (hM : RefAt w rb rwb rhb s) (hbase : base ≤ w.heap.size) (hlow : rb < base ∧ rwb < base ∧ rhb < base ∧ rab ≠ rb ∧ rab ≠ rwb ∧ rab ≠ rhb) (h1 : 1 ≤ n) (h2 : n ≤ 4096) (hv : wd = 32 ∨ wd = 64)
    (i0 : Nat) (hi : i0 ≤ x.l.length) (hgap : n ≤ gapOf x.fr x.l x.til i0) (hbefore : ∀ i, i < i0 → gapOf x.fr x.l x.til i < n)
    (hmp : ∀ w1, RefAt w1 rb rwb rhb s → Calls Tryd.prog 30 #[.pointer (some ⟨rb, 0, none⟩), .int .i64 (endOf x.fr x.l i0), .int .i64 n, .int .i64 wd] w1 (RPost w1 rb rwb rhb s' none)) :
    Calls Tryd.prog 42 #[.pointer (some ⟨rab, 0, none⟩), .int .i64 n, .int .i64 wd] w (RGetPost w base rab rb rwb rhb x s' i0 n wd) := by
  obtain ⟨iT, hiT, hz0, hz1, hz2⟩ := info_parts infoRBlock
  have HA := hid hA
  obtain ⟨hab, hB, hO⟩ := hA
  have c1 := hB.cell (i := 1) rfl
  obtain ⟨a, cap, rfl, hrows⟩ := rows_at hO
  have hform := two_form hO
  have hlen := hx.few
  have HX := hid hx
  have HB := hid hB
  have HR := hid hrows
  have HNO := hid hbefore
  have HGAP := hid hgap
  have HMP := hid hmp
  have HM := hid hM
  have HLW := hid hlow
  have HBS := hid hbase
  have HLT : Hid (∀ g, a = some ⟨g, 0, none⟩ → g < w.heap.size) := hid (fun g hg => by subst hg; exact (World.ownsRow.lt hO g rfl).2)
  have d1 : decide (n < 1) = false := by simp; omega
  have d2 : decide (4096 < n) = false := by simp; omega
  have HRAB := hid hab
  clear hB hO hrows hx hbefore hgap hmp hM hlow hbase hab
  generalize hL : x.l.length = len at *
  have HL := hid hL
  clear hL
  have HFORM := hid hform
  clear hform
  rcases hv with rfl | rfl
  all_goals
    go_enter Tryd.func42, Tryd.ntmps42
    go_wp2_with fail
    go_loopw [8, 9] (fun at_ i wr => ∃ k : Nat, k ≤ i0 ∧ i = .int .i64 k ∧ at_ = .int .i64 (endOf x.fr x.l k) ∧ Keeps [] w wr) (fun _ i _ => (len - (intOf i).toNat))
    case atStart => exact ⟨0, by omega, rfl, rfl, Keeps.refl [] w⟩
    case round =>
      obtain ⟨k, hk, rfl, rfl, hKR⟩ := hrel
      have hBR := HB.out.keeps hKR (by simp)
      have c2 := hBR.cell (i := 2) rfl
      have c3 := hBR.cell (i := 3) rfl
      have c0 := hBR.cell (i := 0) rfl
      have hgp := HX.out.chain.gap (i := k) (by rw [HL.out]; omega)
      have hlo := HX.out.lo
      have hhi := HX.out.hi
      clear hBR
      by_cases hlt : k < i0
      · have hgn := HNO.out k hlt
        unfold gapOf at hgn
        obtain ⟨y, hy⟩ : ∃ y, x.l[k]? = some y := ⟨_, List.getElem?_eq_getElem (by rw [HL.out]; omega)⟩
        obtain ⟨g, rfl, hc⟩ := HR.out (by omega)
        have hg := HLT.out g rfl
        have e0 := (hKR.cell (p := ⟨g, k * 3, none⟩) hg (by simp)).trans (hc k y hy).1
        have e1 := (hKR.cell (p := ⟨g, k * 3 + 1, none⟩) hg (by simp)).trans (hc k y hy).2.1
        have hs := r_start_at (t := x.til) hy
        have hel := HX.out.chain.elem hy
        have HE := hid (r_end_next (a := x.fr) hy)
        rw [hs] at hgp hgn
        clear hc hs hy
        generalize y.pos = p at *
        generalize y.n = q at *
        generalize endOf x.fr x.l k = en at *
        have d3 : decide (p - en < n) = true := decide_eq_true hgn
        have hsum : IntKind.i64.wrap (p + q) = p + q := by rw [IntKind.wrap_i64]; omega
        go_wp2_with fail
        go_quiet (fail)
        go_wp2_with fail
        go_roundw
        case rel => exact ⟨k + 1, by omega, by go_num, by rw [HE.out], hKR.drewN _⟩
        case measure => simp [intOf]; omega
      · obtain rfl : k = i0 := by omega
        have hgn := HGAP.out
        unfold gapOf at hgn
        have HKL := hid hi
        by_cases hkl : k < len
        · obtain ⟨y, hy⟩ : ∃ y, x.l[k]? = some y := ⟨_, List.getElem?_eq_getElem (by rw [HL.out]; omega)⟩
          obtain ⟨g, rfl, hc⟩ := HR.out (by omega)
          have hg := HLT.out g rfl
          have e0 := (hKR.cell (p := ⟨g, k * 3, none⟩) hg (by simp)).trans (hc k y hy).1
          have hs := r_start_at (t := x.til) hy
          have hel := HX.out.chain.elem hy
          rw [hs] at hgp hgn
          have hcap : len ≤ cap := by
            rcases HFORM.out with ⟨h, _⟩ | ⟨_, _, h⟩
            · cases h
            · exact h
          clear hc hs hy
          have d3 : decide (y.pos - endOf x.fr x.l k < n) = false := decide_eq_false (by omega)
          have d4 : ((k : Int) == (len : Int)) = false := by simp; omega
          have d5 : (k == len) = false := by simp; omega
          go_wp2_with fail
          refine (HMP.out _ (HM.out.keeps hKR (by simp) (by simp) (by simp))).mono ?_
          rintro e w2 ⟨u, rfl, hD, hM2, hK2⟩
          obtain rfl : u = .pointer none := hD
          have HM2 := hid hM2
          have HK2 := hid ((hKR.mono (by simp)).trans hK2)
          have HA2 := hid (HA.out.keeps HK2.out (by have := HLW.out; simp; omega) (by have := HLW.out; simp; omega))
          have HO2 : Hid (w2.ownsRow base 117 3 (.slice (some ⟨g, 0, none⟩) len cap) len (x.l.flatMap Bk.cells)) := by
            have h := HA2.out.2.2
            rw [HL.out] at h
            exact hid h
          have HW2 : Hid (base ≤ w2.heap.size) := hid (Nat.le_trans HBS.out HK2.out.size)
          have c3 := HA2.out.2.1.cell (i := 3) rfl
          clear hM2 hK2 c0 c2
          clear d3 d4 d5 e0 hel
          have b1 : k ≤ cap := by omega
          have b2 : (k : Int) ≤ (cap : Int) := by omega
          have b3 : k ≤ len := by omega
          have b4 : (k : Int) ≤ (len : Int) := by omega
          have b5 : ¬ cap = k := by omega
          have HCK := hid b5
          generalize hen : endOf x.fr x.l k = en at *
          have HE := hid hen
          clear hen hgn hgp
          go_wp2_with (at_builtin; refine wpList_append_src rfl (.tmp 102) (.tmp 108) 114 rfl base 117 iT (.agg bk0.cells.toArray) 3 24 Tryd.underlying114 hiT hz0 hz1 hz2 rfl (by decide) _ 0 [] rfl (World.ownsRow_nil _ _ _ _) _ _ _ ((x.l.take k).flatMap Bk.cells) rfl (row_srcs HL.out HO2.out HKL.out).1 (bk_one _) (by unfold maxLen; omega) (by omega) HW2.out ?_)
          intro v3 w3 hown3 hg3 hwh3
          have HK3 : Hid (Keeps [] w2 w3) := hid ((grown_list hg3).mono (by simp [Value.ownBlock]))
          have HF3 : Hid (∀ g, v3.ownBlock = some g → w2.heap.size ≤ g) := hid (fun g hg => by have := hwh3 g hg; simpa [Value.ownBlock] using this)
          have HO3 := hid hown3
          clear hown3 hg3 hwh3 c3
          have c3 := (HA2.out.2.1.keeps HK3.out (by simp)).cell (i := 3) rfl
          go_wp2_with (at_builtin; refine wpList_append_src rfl (.tmp 110) (.tmp 115) 114 rfl base 117 iT (.agg bk0.cells.toArray) 3 24 Tryd.underlying114 hiT hz0 hz1 hz2 rfl (by decide) v3 _ _ rfl (HO3.out.alloc _) _ _ _ (Bk.cells ⟨en, n, _⟩) rfl (bk_src ⟨en, n, _⟩ w3 _) (one_one _) (by unfold maxLen; omega) (by omega) (by have h1 := HW2.out; have h2 := HK3.out.size; simp; omega) ?_)
          intro v4 w4 hown4 hg4 hwh4
          have HK4 : Hid (Keeps [] w2 w4) := hid ((HK3.out.alloc _).drop (grown_list hg4) (fun z hz => .inr (HF3.out z (by simpa using hz))))
          have HF4 : Hid (∀ g, v4.ownBlock = some g → w2.heap.size ≤ g) := hid (fun g hg => by
            rcases hwh4 g hg with h | h
            · exact HF3.out g h
            · have h2 := HK3.out.size
              have h3 : w3.heap.size + 1 ≤ g := by simpa using h
              omega)
          have HO4 := hid hown4
          clear hown4 hg4 hwh4 c3
          have HO2 : Hid (w4.ownsRow base 117 3 (.slice (some ⟨g, 0, none⟩) len cap) len (x.l.flatMap Bk.cells)) := hid (ownsRow_keeps HO2.out HK4.out (by simp))
          have HSR := hid (row_srcs (k := k) HL.out HO2.out HKL.out)
          have c3 := (HA2.out.2.1.keeps HK4.out (by simp)).cell (i := 3) rfl

          go_wp2_with (at_builtin; refine wpList_append_src rfl (.tmp 118) (.tmp 124) 114 rfl base 117 iT (.agg bk0.cells.toArray) 3 24 Tryd.underlying114 hiT hz0 hz1 hz2 rfl (by decide) v4 _ _ rfl HO4.out _ _ _ ((x.l.drop k).flatMap Bk.cells) rfl (HSR.out.2.1 g HCK.out rfl) (bk_one _) (by unfold maxLen; omega) (by omega) (by have h1 := HW2.out; have h2 := HK4.out.size; omega) ?_)
          intro v5 w5 hown5 hg5 hwh5
          have HK5 : Hid (Keeps [] w2 w5) := hid (HK4.out.drop (grown_list hg5) (fun z hz => .inr (HF4.out z (by simpa using hz))))
          have HF5 : Hid (∀ g, v5.ownBlock = some g → w2.heap.size ≤ g) := hid (fun g hg => by
            rcases hwh5 g hg with h | h
            · exact HF4.out g h
            · have h2 := HK4.out.size
              omega)
          obtain ⟨a5, m5, cap5, rfl⟩ : ∃ a m c, v5 = .slice a m c := by
            rcases hown5.2 with ⟨hv, _⟩ | ⟨_, _, _, hv, _⟩
            · exact ⟨_, _, _, hv⟩
            · exact ⟨_, _, _, hv⟩
          have HO5 := hid hown5
          clear hown5 hg5 hwh5 c3
          have hB5 := HA2.out.2.1.keeps HK5.out (by simp)
          have c3 := hB5.cell (i := 3) rfl
          have f3 := hB5.frozen 3
          clear hB5
          go_wp2_with fail
          go_ret2
          refine ⟨by rw [HE.out]; rfl, ?_⟩
          rw [HE.out]
          exact rget_final HL.out HKL.out HLW.out HA2.out HM2.out HK2.out HK5.out HO5.out (by omega) (by simp) HF5.out
        · obtain rfl : k = len := by omega
          have hs : startOf x.l x.til k = x.til := by unfold startOf; rw [if_pos HL.out.symm]
          rw [hs] at hgp hgn
          clear hs
          have d3 : decide (x.til - endOf x.fr x.l k < n) = false := decide_eq_false (by omega)
          have d4 : ((k : Int) == (k : Int)) = true := by simp
          rcases HFORM.out with ⟨rfl, rfl, rfl⟩ | ⟨g, rfl, hcap⟩
          · go_wp2_with fail
            refine (HMP.out _ (HM.out.keeps hKR (by simp) (by simp) (by simp))).mono ?_
            rintro e w2 ⟨u, rfl, hD, hM2, hK2⟩
            obtain rfl : u = .pointer none := hD
            have HM2 := hid hM2
            have HK2 := hid ((hKR.mono (by simp)).trans hK2)
            have HA2 := hid (HA.out.keeps HK2.out (by have := HLW.out; simp; omega) (by have := HLW.out; simp; omega))
            have HO2 : Hid (w2.ownsRow base 117 3 (.slice none 0 0) 0 (x.l.flatMap Bk.cells)) := by
              have h := HA2.out.2.2
              rw [HL.out] at h
              exact hid h
            have HW2 : Hid (base ≤ w2.heap.size) := hid (Nat.le_trans HBS.out HK2.out.size)
            have c3 := HA2.out.2.1.cell (i := 3) rfl
            clear hM2 hK2 c0 c2
            clear d3 d4
            generalize hen : endOf x.fr x.l 0 = en at *
            have HE := hid hen
            clear hen hgn hgp
            go_wp2_with (at_builtin; refine wpList_append_src rfl (.tmp 102) (.tmp 108) 114 rfl base 117 iT (.agg bk0.cells.toArray) 3 24 Tryd.underlying114 hiT hz0 hz1 hz2 rfl (by decide) _ 0 [] rfl (World.ownsRow_nil _ _ _ _) _ _ _ ((x.l.take 0).flatMap Bk.cells) rfl (row_srcs HL.out HO2.out HKL.out).1 (bk_one _) (by unfold maxLen; omega) (by omega) HW2.out ?_)
            intro v3 w3 hown3 hg3 hwh3
            have HK3 : Hid (Keeps [] w2 w3) := hid ((grown_list hg3).mono (by simp [Value.ownBlock]))
            have HF3 : Hid (∀ g, v3.ownBlock = some g → w2.heap.size ≤ g) := hid (fun g hg => by have := hwh3 g hg; simpa [Value.ownBlock] using this)
            have HO3 := hid hown3
            clear hown3 hg3 hwh3 c3
            have c3 := (HA2.out.2.1.keeps HK3.out (by simp)).cell (i := 3) rfl
            go_wp2_with (at_builtin; refine wpList_append_src rfl (.tmp 110) (.tmp 115) 114 rfl base 117 iT (.agg bk0.cells.toArray) 3 24 Tryd.underlying114 hiT hz0 hz1 hz2 rfl (by decide) v3 _ _ rfl (HO3.out.alloc _) _ _ _ (Bk.cells ⟨en, n, _⟩) rfl (bk_src ⟨en, n, _⟩ w3 _) (one_one _) (by unfold maxLen; omega) (by omega) (by have h1 := HW2.out; have h2 := HK3.out.size; simp; omega) ?_)
            intro v4 w4 hown4 hg4 hwh4
            have HK4 : Hid (Keeps [] w2 w4) := hid ((HK3.out.alloc _).drop (grown_list hg4) (fun z hz => .inr (HF3.out z (by simpa using hz))))
            have HF4 : Hid (∀ g, v4.ownBlock = some g → w2.heap.size ≤ g) := hid (fun g hg => by
              rcases hwh4 g hg with h | h
              · exact HF3.out g h
              · have h2 := HK3.out.size
                have h3 : w3.heap.size + 1 ≤ g := by simpa using h
                omega)
            have HO4 := hid hown4
            clear hown4 hg4 hwh4 c3
            have HO2 : Hid (w4.ownsRow base 117 3 (.slice none 0 0) 0 (x.l.flatMap Bk.cells)) := hid (ownsRow_keeps HO2.out HK4.out (by simp))
            have HSR := hid (row_srcs (k := 0) HL.out HO2.out HKL.out)
            have c3 := (HA2.out.2.1.keeps HK4.out (by simp)).cell (i := 3) rfl

            go_wp2_with (at_builtin; refine wpList_append_src rfl (.tmp 118) (.tmp 124) 114 rfl base 117 iT (.agg bk0.cells.toArray) 3 24 Tryd.underlying114 hiT hz0 hz1 hz2 rfl (by decide) v4 _ _ rfl HO4.out _ _ _ ((x.l.drop 0).flatMap Bk.cells) rfl (show Src w4 3 none 0 _ from (HSR.out.2.2 rfl).1) (bk_one _) (by unfold maxLen; omega) (by omega) (by have h1 := HW2.out; have h2 := HK4.out.size; omega) ?_)
            intro v5 w5 hown5 hg5 hwh5
            have HK5 : Hid (Keeps [] w2 w5) := hid (HK4.out.drop (grown_list hg5) (fun z hz => .inr (HF4.out z (by simpa using hz))))
            have HF5 : Hid (∀ g, v5.ownBlock = some g → w2.heap.size ≤ g) := hid (fun g hg => by
              rcases hwh5 g hg with h | h
              · exact HF4.out g h
              · have h2 := HK4.out.size
                omega)
            obtain ⟨a5, m5, cap5, rfl⟩ : ∃ a m c, v5 = .slice a m c := by
              rcases hown5.2 with ⟨hv, _⟩ | ⟨_, _, _, hv, _⟩
              · exact ⟨_, _, _, hv⟩
              · exact ⟨_, _, _, hv⟩
            have HO5 := hid hown5
            clear hown5 hg5 hwh5 c3
            have hB5 := HA2.out.2.1.keeps HK5.out (by simp)
            have c3 := hB5.cell (i := 3) rfl
            have f3 := hB5.frozen 3
            clear hB5
            go_wp2_with fail
            go_ret2
            refine ⟨by rw [HE.out]; rfl, ?_⟩
            rw [HE.out]
            exact rget_final HL.out HKL.out HLW.out HA2.out HM2.out HK2.out HK5.out HO5.out (by omega) (by simp) HF5.out
          · by_cases hck : cap = k
            · obtain rfl : k = cap := hck.symm
              go_wp2_with fail
              refine (HMP.out _ (HM.out.keeps hKR (by simp) (by simp) (by simp))).mono ?_
              rintro e w2 ⟨u, rfl, hD, hM2, hK2⟩
              obtain rfl : u = .pointer none := hD
              have HM2 := hid hM2
              have HK2 := hid ((hKR.mono (by simp)).trans hK2)
              have HA2 := hid (HA.out.keeps HK2.out (by have := HLW.out; simp; omega) (by have := HLW.out; simp; omega))
              have HO2 : Hid (w2.ownsRow base 117 3 (.slice (some ⟨g, 0, none⟩) k k) k (x.l.flatMap Bk.cells)) := by
                have h := HA2.out.2.2
                rw [HL.out] at h
                exact hid h
              have HW2 : Hid (base ≤ w2.heap.size) := hid (Nat.le_trans HBS.out HK2.out.size)
              have c3 := HA2.out.2.1.cell (i := 3) rfl
              clear hM2 hK2 c0 c2
              clear d3 d4
              generalize hen : endOf x.fr x.l k = en at *
              have HE := hid hen
              clear hen hgn hgp
              go_wp2_with (at_builtin; refine wpList_append_src rfl (.tmp 102) (.tmp 108) 114 rfl base 117 iT (.agg bk0.cells.toArray) 3 24 Tryd.underlying114 hiT hz0 hz1 hz2 rfl (by decide) _ 0 [] rfl (World.ownsRow_nil _ _ _ _) _ _ _ ((x.l.take k).flatMap Bk.cells) rfl (row_srcs HL.out HO2.out HKL.out).1 (bk_one _) (by unfold maxLen; omega) (by omega) HW2.out ?_)
              intro v3 w3 hown3 hg3 hwh3
              have HK3 : Hid (Keeps [] w2 w3) := hid ((grown_list hg3).mono (by simp [Value.ownBlock]))
              have HF3 : Hid (∀ g, v3.ownBlock = some g → w2.heap.size ≤ g) := hid (fun g hg => by have := hwh3 g hg; simpa [Value.ownBlock] using this)
              have HO3 := hid hown3
              clear hown3 hg3 hwh3 c3
              have c3 := (HA2.out.2.1.keeps HK3.out (by simp)).cell (i := 3) rfl
              go_wp2_with (at_builtin; refine wpList_append_src rfl (.tmp 110) (.tmp 115) 114 rfl base 117 iT (.agg bk0.cells.toArray) 3 24 Tryd.underlying114 hiT hz0 hz1 hz2 rfl (by decide) v3 _ _ rfl (HO3.out.alloc _) _ _ _ (Bk.cells ⟨en, n, _⟩) rfl (bk_src ⟨en, n, _⟩ w3 _) (one_one _) (by unfold maxLen; omega) (by omega) (by have h1 := HW2.out; have h2 := HK3.out.size; simp; omega) ?_)
              intro v4 w4 hown4 hg4 hwh4
              have HK4 : Hid (Keeps [] w2 w4) := hid ((HK3.out.alloc _).drop (grown_list hg4) (fun z hz => .inr (HF3.out z (by simpa using hz))))
              have HF4 : Hid (∀ g, v4.ownBlock = some g → w2.heap.size ≤ g) := hid (fun g hg => by
                rcases hwh4 g hg with h | h
                · exact HF3.out g h
                · have h2 := HK3.out.size
                  have h3 : w3.heap.size + 1 ≤ g := by simpa using h
                  omega)
              have HO4 := hid hown4
              clear hown4 hg4 hwh4 c3
              have HO2 : Hid (w4.ownsRow base 117 3 (.slice (some ⟨g, 0, none⟩) k k) k (x.l.flatMap Bk.cells)) := hid (ownsRow_keeps HO2.out HK4.out (by simp))
              have HSR := hid (row_srcs (k := k) HL.out HO2.out HKL.out)
              have c3 := (HA2.out.2.1.keeps HK4.out (by simp)).cell (i := 3) rfl

              go_wp2_with (at_builtin; refine wpList_append_src rfl (.tmp 118) (.tmp 124) 114 rfl base 117 iT (.agg bk0.cells.toArray) 3 24 Tryd.underlying114 hiT hz0 hz1 hz2 rfl (by decide) v4 _ _ rfl HO4.out _ _ _ ((x.l.drop k).flatMap Bk.cells) rfl (show Src w4 3 _ _ _ from by have h := (HSR.out.2.2 rfl).1; simpa using h) (bk_one _) (by unfold maxLen; omega) (by omega) (by have h1 := HW2.out; have h2 := HK4.out.size; omega) ?_)
              intro v5 w5 hown5 hg5 hwh5
              have HK5 : Hid (Keeps [] w2 w5) := hid (HK4.out.drop (grown_list hg5) (fun z hz => .inr (HF4.out z (by simpa using hz))))
              have HF5 : Hid (∀ g, v5.ownBlock = some g → w2.heap.size ≤ g) := hid (fun g hg => by
                rcases hwh5 g hg with h | h
                · exact HF4.out g h
                · have h2 := HK4.out.size
                  omega)
              obtain ⟨a5, m5, cap5, rfl⟩ : ∃ a m c, v5 = .slice a m c := by
                rcases hown5.2 with ⟨hv, _⟩ | ⟨_, _, _, hv, _⟩
                · exact ⟨_, _, _, hv⟩
                · exact ⟨_, _, _, hv⟩
              have HO5 := hid hown5
              clear hown5 hg5 hwh5 c3
              have hB5 := HA2.out.2.1.keeps HK5.out (by simp)
              have c3 := hB5.cell (i := 3) rfl
              have f3 := hB5.frozen 3
              clear hB5
              go_wp2_with fail
              go_ret2
              refine ⟨by rw [HE.out]; rfl, ?_⟩
              rw [HE.out]
              exact rget_final HL.out HKL.out HLW.out HA2.out HM2.out HK2.out HK5.out HO5.out (by omega) (by simp) HF5.out
            · have b5 := hck
              go_wp2_with fail
              refine (HMP.out _ (HM.out.keeps hKR (by simp) (by simp) (by simp))).mono ?_
              rintro e w2 ⟨u, rfl, hD, hM2, hK2⟩
              obtain rfl : u = .pointer none := hD
              have HM2 := hid hM2
              have HK2 := hid ((hKR.mono (by simp)).trans hK2)
              have HA2 := hid (HA.out.keeps HK2.out (by have := HLW.out; simp; omega) (by have := HLW.out; simp; omega))
              have HO2 : Hid (w2.ownsRow base 117 3 (.slice (some ⟨g, 0, none⟩) k cap) k (x.l.flatMap Bk.cells)) := by
                have h := HA2.out.2.2
                rw [HL.out] at h
                exact hid h
              have HW2 : Hid (base ≤ w2.heap.size) := hid (Nat.le_trans HBS.out HK2.out.size)
              have c3 := HA2.out.2.1.cell (i := 3) rfl
              clear hM2 hK2 c0 c2
              clear d3 d4
              have b1 : k ≤ cap := by omega
              have b2 : (k : Int) ≤ (cap : Int) := by omega
              have HCK := hid b5
              generalize hen : endOf x.fr x.l k = en at *
              have HE := hid hen
              clear hen hgn hgp
              go_wp2_with (at_builtin; refine wpList_append_src rfl (.tmp 102) (.tmp 108) 114 rfl base 117 iT (.agg bk0.cells.toArray) 3 24 Tryd.underlying114 hiT hz0 hz1 hz2 rfl (by decide) _ 0 [] rfl (World.ownsRow_nil _ _ _ _) _ _ _ ((x.l.take k).flatMap Bk.cells) rfl (row_srcs HL.out HO2.out HKL.out).1 (bk_one _) (by unfold maxLen; omega) (by omega) HW2.out ?_)
              intro v3 w3 hown3 hg3 hwh3
              have HK3 : Hid (Keeps [] w2 w3) := hid ((grown_list hg3).mono (by simp [Value.ownBlock]))
              have HF3 : Hid (∀ g, v3.ownBlock = some g → w2.heap.size ≤ g) := hid (fun g hg => by have := hwh3 g hg; simpa [Value.ownBlock] using this)
              have HO3 := hid hown3
              clear hown3 hg3 hwh3 c3
              have c3 := (HA2.out.2.1.keeps HK3.out (by simp)).cell (i := 3) rfl
              go_wp2_with (at_builtin; refine wpList_append_src rfl (.tmp 110) (.tmp 115) 114 rfl base 117 iT (.agg bk0.cells.toArray) 3 24 Tryd.underlying114 hiT hz0 hz1 hz2 rfl (by decide) v3 _ _ rfl (HO3.out.alloc _) _ _ _ (Bk.cells ⟨en, n, _⟩) rfl (bk_src ⟨en, n, _⟩ w3 _) (one_one _) (by unfold maxLen; omega) (by omega) (by have h1 := HW2.out; have h2 := HK3.out.size; simp; omega) ?_)
              intro v4 w4 hown4 hg4 hwh4
              have HK4 : Hid (Keeps [] w2 w4) := hid ((HK3.out.alloc _).drop (grown_list hg4) (fun z hz => .inr (HF3.out z (by simpa using hz))))
              have HF4 : Hid (∀ g, v4.ownBlock = some g → w2.heap.size ≤ g) := hid (fun g hg => by
                rcases hwh4 g hg with h | h
                · exact HF3.out g h
                · have h2 := HK3.out.size
                  have h3 : w3.heap.size + 1 ≤ g := by simpa using h
                  omega)
              have HO4 := hid hown4
              clear hown4 hg4 hwh4 c3
              have HO2 : Hid (w4.ownsRow base 117 3 (.slice (some ⟨g, 0, none⟩) k cap) k (x.l.flatMap Bk.cells)) := hid (ownsRow_keeps HO2.out HK4.out (by simp))
              have HSR := hid (row_srcs (k := k) HL.out HO2.out HKL.out)
              have c3 := (HA2.out.2.1.keeps HK4.out (by simp)).cell (i := 3) rfl

              go_wp2_with (at_builtin; refine wpList_append_src rfl (.tmp 118) (.tmp 124) 114 rfl base 117 iT (.agg bk0.cells.toArray) 3 24 Tryd.underlying114 hiT hz0 hz1 hz2 rfl (by decide) v4 _ _ rfl HO4.out _ _ _ ((x.l.drop k).flatMap Bk.cells) rfl (show Src w4 3 (some ⟨g, k * 3, none⟩) 0 _ from by have h := HSR.out.2.1 g HCK.out rfl; simpa using h) (bk_one _) (by unfold maxLen; omega) (by omega) (by have h1 := HW2.out; have h2 := HK4.out.size; omega) ?_)
              intro v5 w5 hown5 hg5 hwh5
              have HK5 : Hid (Keeps [] w2 w5) := hid (HK4.out.drop (grown_list hg5) (fun z hz => .inr (HF4.out z (by simpa using hz))))
              have HF5 : Hid (∀ g, v5.ownBlock = some g → w2.heap.size ≤ g) := hid (fun g hg => by
                rcases hwh5 g hg with h | h
                · exact HF4.out g h
                · have h2 := HK4.out.size
                  omega)
              obtain ⟨a5, m5, cap5, rfl⟩ : ∃ a m c, v5 = .slice a m c := by
                rcases hown5.2 with ⟨hv, _⟩ | ⟨_, _, _, hv, _⟩
                · exact ⟨_, _, _, hv⟩
                · exact ⟨_, _, _, hv⟩
              have HO5 := hid hown5
              clear hown5 hg5 hwh5 c3
              have hB5 := HA2.out.2.1.keeps HK5.out (by simp)
              have c3 := hB5.cell (i := 3) rfl
              have f3 := hB5.frozen 3
              clear hB5
              go_wp2_with fail
              go_ret2
              refine ⟨by rw [HE.out]; rfl, ?_⟩
              rw [HE.out]
              exact rget_final HL.out HKL.out HLW.out HA2.out HM2.out HK2.out HK5.out HO5.out (by omega) (by simp) HF5.out
end Go.Proofs.YtmciclhifcjoiaaDoor
