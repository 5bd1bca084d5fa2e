/-
  The document's allocator: Put that finds its block. (Printed by gen_ref03g.py.)
-/
import Derived.Test.YtmciclhifcjoiaaDoorRef03f
import Derived.Test.YtmciclhifcjoiaaDoorRef03d
namespace Go.Proofs.YtmciclhifcjoiaaDoor
open Go.RowKit

theorem blk_type {w : World} {b : Nat} {c d : Array Value} {t u : TypeId} (h : Blk w b c t) (k : Blk w b d u) : t = u := by
  unfold Blk at h k
  rw [h] at k
  cases k
  rfl

/-- A store into the document's allocator leaves its errors. -/
theorem FailAt.over {w w' : World} {rab : Nat} {c : Array Value} {v : Value} {l : List (ByteArray × Int)} {k : Int} (f : FailAt w v l k) (hB : Blk w rab c 116) (h : Keeps [rab] w w') : FailAt w' v l k := by
  obtain ⟨b, lb, nb, c1, c2, sc, nc, hv, h1, h2, h3, h4⟩ := f
  refine ⟨b, lb, nb, c1, c2, sc, nc, hv, h1.keeps h ?_, h2.keeps h ?_, h3.keeps h ?_, h4⟩
  · intro hm
    simp at hm
    subst hm
    exact absurd (blk_type h1 hB) (by decide)
  · intro hm
    simp at hm
    subst hm
    exact absurd (blk_type h2 hB) (by decide)
  · intro hm
    simp at hm
    subst hm
    exact absurd (blk_type h3 hB) (by decide)

def RPutPost (w : World) (base rab rb rwb rhb : Nat) (x : AS) (s' : MS) (i : Nat) (p : Int) (d : Option (List (ByteArray × Int) × Int)) (e : Ending) (w' : World) : Prop :=
  ∃ u, e = .returned u ∧ (∃ lv', RAllocAt w' base rab rb lv' (x.del i) ∧ ∀ g, lv'.ownBlock = some g → w.heap.size ≤ g) ∧ RefAt w' rb rwb rhb s' ∧ Keeps [rab, rb, rwb, rhb] w w' ∧
    match d with
    | none => u = .pointer none
    | some (l, k) => FailAt w' u ((allocS, p) :: l) k

/-- Behind the store. -/
theorem rput_final {w w2 w5 : World} {base rab rb rwb rhb len k : Nat} {lv v5 : Value} {x : AS} {s' : MS} {xs : List Value} {m : Nat} (hL : x.l.length = len) (hk : k < len) (hlow : rb < base ∧ rwb < base ∧ rhb < base ∧ rab ≠ rb ∧ rab ≠ rwb ∧ rab ≠ rhb)
    (hA : RAllocAt w2 base rab rb lv x) (hM : RefAt w2 rb rwb rhb s') (hK2 : Keeps [rb, rwb, rhb] w w2) (hK5 : Keeps [] w2 w5) (hO : w5.ownsRow base 117 3 v5 m xs) (hm : m = len - 1) (hxs : xs = (x.l.take k).flatMap Bk.cells ++ (x.l.drop (k + 1)).flatMap Bk.cells)
    (hfr : ∀ g, v5.ownBlock = some g → w2.heap.size ≤ g) :
    RAllocAt (w5.setCell ⟨rab, 3, none⟩ v5) base rab rb v5 (x.del k) ∧ (∀ g, v5.ownBlock = some g → w.heap.size ≤ g) ∧ RefAt (w5.setCell ⟨rab, 3, none⟩ v5) rb rwb rhb s' ∧ Keeps [rab, rb, rwb, rhb] w (w5.setCell ⟨rab, 3, none⟩ v5) ∧
      ∀ (u : Value) (l : List (ByteArray × Int)) (q : Int), FailAt w2 u l q → FailAt (w5.setCell ⟨rab, 3, none⟩ v5) u l q := by
  have hA5 := hA.keeps hK5 (by simp) (by simp)
  have hK6 : Keeps [rab] w5 (w5.setCell ⟨rab, 3, none⟩ v5) := (Keeps.refl _ _).set (by simp) _
  have hsz := hK2.size
  refine ⟨⟨hA.1, hA5.2.1.set 3 _, ?_⟩, fun g hg => by have := hfr g hg; omega, (hM.keeps hK5 (by simp) (by simp) (by simp)).keeps hK6 (by simp; omega) (by simp; omega) (by simp; omega), ?_, fun u l q hF => (hF.keeps hK5).over hA5.2.1 hK6⟩
  · have hlen : (x.l.take k ++ x.l.drop (k + 1)).length = m := by simp; omega
    have e : (x.l.take k ++ x.l.drop (k + 1)).flatMap Bk.cells = xs := by rw [hxs]; simp [List.flatMap_append]
    show World.ownsRow _ _ _ _ _ (x.l.take k ++ x.l.drop (k + 1)).length ((x.l.take k ++ x.l.drop (k + 1)).flatMap Bk.cells)
    rw [hlen, e]
    exact ownsRow_keeps hO hK6 (by intro z hz; simp at hz; have := hA.1; omega)
  · exact (((hK2.mono (by intro z hz; simp at hz ⊢; omega)).trans (hK5.mono (by simp))).trans (hK6.mono (by simp)))

set_option maxRecDepth 100000 in
set_option maxHeartbeats 4000000 in
theorem rput_found (base rab rb rwb rhb : Nat) (lv : Value) (x : AS) (s s' : MS) (d : Option (List (ByteArray × Int) × Int)) (p : Int) (w : World) (hA : RAllocAt w base rab rb lv x) (hx : x.ok) (hM : RefAt w rb rwb rhb s) (hbase : base ≤ w.heap.size) (hlow : rb < base ∧ rwb < base ∧ rhb < base ∧ rab ≠ rb ∧ rab ≠ rwb ∧ rab ≠ rhb)
    (i0 : Nat) (y : Bk) (hi : x.l[i0]? = some y) (hp : y.pos = p) (hbefore : ∀ (i : Nat) (r : Bk), i < i0 → x.l[i]? = some r → r.pos ≠ p) (hd : OneLayer d)
    (hmp : ∀ w1, RefAt w1 rb rwb rhb s → Calls Tryd.prog 41 #[.pointer (some ⟨rb, 0, none⟩), .int .i64 p, .int .i64 y.n] w1 (RPost w1 rb rwb rhb s' d)) :
    Calls Tryd.prog 40 #[.pointer (some ⟨rab, 0, none⟩), .int .i64 p] w (RPutPost w base rab rb rwb rhb x s' i0 p d) := by
  obtain ⟨iT, hiT, hz0, hz1, hz2⟩ := info_parts infoRBlock
  have HA := hid hA
  obtain ⟨hab, hB, hO⟩ := hA
  have c3 := hB.cell (i := 3) rfl
  have hi0 : i0 < x.l.length := (List.getElem?_eq_some_iff.1 hi).1
  obtain ⟨a, cap, rfl, hrows⟩ := rows_at hO
  obtain ⟨g, rfl, hcap⟩ : ∃ g, a = some ⟨g, 0, none⟩ ∧ x.l.length ≤ cap := by
    rcases two_form hO with ⟨_, h, _⟩ | h
    · omega
    · exact h
  have hg := (World.ownsRow.lt hO g rfl)
  have hlen := hx.few
  have HB := hid hB
  have HR : Hid (∀ (i : Nat) (b : Bk), x.l[i]? = some b → w.cell? ⟨g, i * 3, none⟩ = some (.int .i64 b.pos) ∧ w.cell? ⟨g, i * 3 + 1, none⟩ = some (.int .i64 b.n)) := hid (fun i b hb => by
    obtain ⟨g', he, hc⟩ := hrows (by omega)
    cases he
    exact ⟨(hc i b hb).1, (hc i b hb).2.1⟩)
  have HNO := hid hbefore
  have HI := hid hi
  have HP := hid hp
  have HD := hid hd
  have HMP := hid hmp
  have HM := hid hM
  have HLW := hid hlow
  have HBS := hid hbase
  have HG := hid hg
  clear hab hB hO hrows hx hbefore hmp hM hlow hbase hi hp hd hg
  generalize hL : x.l.length = len at *
  have HL := hid hL
  clear hL
  go_enter Tryd.func40, Tryd.ntmps40
  go_wp2_with fail
  go_loopw [5] (fun i wr => ∃ k : Nat, k ≤ i0 ∧ i = .int .i64 k ∧ wr = w) (fun i _ => (i0 + 1 - (intOf i).toNat))
  case atStart => exact ⟨0, by omega, rfl, rfl⟩
  case round =>
    obtain ⟨k, hk, rfl, rfl⟩ := hrel
    have hkl : k < len := by omega
    obtain ⟨r, hr⟩ : ∃ r, x.l[k]? = some r := ⟨_, List.getElem?_eq_getElem (by rw [HL.out]; omega)⟩
    have e0 := (HR.out k r hr).1
    by_cases hlt : k < i0
    · have hne := HNO.out k r hlt hr
      have hq : (r.pos == p) = false := by simpa using hne
      clear hr hne
      generalize r.pos = q at *
      go_wp2_with fail
      go_roundw
      case rel => exact ⟨k + 1, by omega, by go_num, by first | rfl | trivial⟩
      case measure => simp [intOf]; omega
    · obtain rfl : k = i0 := by omega
      obtain rfl : r = y := by have h := HI.out; rw [hr] at h; exact Option.some.inj h
      have e1 := (HR.out k r hr).2
      rw [HP.out] at e0
      have hq : (p == p) = true := by simp
      clear hr
      have c0 := HB.out.cell (i := 0) rfl
      have HKL := hid hkl
      have HA1 : Hid (RAllocAt wr.drew base rab rb (.slice (some ⟨g, 0, none⟩) len cap) x) := hid (HA.out.keeps ((Keeps.refl [] _).drew) (by simp) (by simp))
      have HM1 : Hid (RefAt wr.drew rb rwb rhb s) := hid HM.out
      have HCL : Hid (wr.drew.cell? ⟨g, k * 3 + 1, none⟩ = some (.int .i64 r.n)) := hid e1
      have HN1 : Hid (rab ∉ [rb, rwb, rhb]) := hid (by have := HLW.out; simp; omega)
      have HN2 : Hid (∀ z, z ∈ [rb, rwb, rhb] → z < base) := hid (by have := HLW.out; intro z hz; simp at hz; omega)
      have HN3 : Hid (g ∉ [rb, rwb, rhb]) := hid (by have := HLW.out; have := HG.out; simp; omega)
      have HGL : Hid (g < wr.drew.heap.size) := hid HG.out.2
      have HKD : Hid (Keeps [] wr wr.drew) := hid ((Keeps.refl [] _).drew)
      go_upto_region 5 with fail
      clear c0 e0 e1 hq
      go_region_held3 (fun W => W.cell? ⟨rab, 0, none⟩ = some (.pointer (some ⟨rb, 0, none⟩)) ∧ W.cell? ⟨rab, 3, none⟩ = some (.slice (some ⟨g, 0, none⟩) len cap) ∧ W.cell? ⟨g, k * 3 + 1, none⟩ = some (.int .i64 r.n)) (exact ⟨HA1.out.2.1.cell (i := 0) rfl, HA1.out.2.1.cell (i := 3) rfl, HCL.out⟩)
        ((go_at_call 41; refine (HMP.out _ HM1.out).mono ?_; rintro e w2 ⟨u, rfl, hD, hM2, hK2⟩; replace HA1 : Hid (RAllocAt w2 base rab rb (.slice (some ⟨g, 0, none⟩) len cap) x) := hid (HA1.out.keeps hK2 HN1.out HN2.out); replace HCL : Hid (w2.cell? ⟨g, k * 3 + 1, none⟩ = some (.int .i64 r.n)) := hid ((hK2.cell (p := ⟨g, k * 3 + 1, none⟩) HGL.out HN3.out).trans HCL.out)))
      have HDU := hid hD
      have HM2 := hid hM2
      have HK2 := hid ((HKD.out.mono (by simp)).trans hK2)
      have HO2 : Hid (w2.ownsRow base 117 3 (.slice (some ⟨g, 0, none⟩) len cap) len (x.l.flatMap Bk.cells)) := by
        have h := HA1.out.2.2
        rw [HL.out] at h
        exact hid h
      have HW2 : Hid (base ≤ w2.heap.size) := hid (Nat.le_trans HBS.out HK2.out.size)
      clear c3 hD hM2 hK2
      have c3 := HA1.out.2.1.cell (i := 3) rfl
      have b1 : k ≤ cap := by omega
      have b2 : (k : Int) ≤ (cap : Int) := by omega
      have b3 : k ≤ len := by omega
      have b4 : (k : Int) ≤ (len : Int) := by omega
      have b6 : (0 : Int) ≤ (k : Int) + 1 := by omega
      have b7 : (k : Int) + 1 ≤ (len : Int) := by omega
      have b8 : k + 1 ≤ len := by omega
      by_cases hck : cap = k + 1
      · have HLK : Hid (len = k + 1) := hid (by omega)
        go_wp2_with (at_builtin; refine wpList_append_src rfl (.tmp 41) (.tmp 47) 114 rfl base 117 iT (.agg bk0.cells.toArray) 3 24 Tryd.underlying114 hiT hz0 hz1 hz2 rfl (by decide) _ 0 [] rfl (World.ownsRow_nil _ _ _ _) _ _ _ ((x.l.take k).flatMap Bk.cells) rfl (row_srcs HL.out HO2.out (Nat.le_of_lt HKL.out)).1 (bk_one _) (by unfold maxLen; omega) (by omega) HW2.out ?_)
        intro v3 w3 hown3 hg3 hwh3
        have HK3 : Hid (Keeps [] w2 w3) := hid ((grown_list hg3).mono (by simp [Value.ownBlock]))
        have HF3 : Hid (∀ g, v3.ownBlock = some g → w2.heap.size ≤ g) := hid (fun g hg => by have := hwh3 g hg; simpa [Value.ownBlock] using this)
        have HO3 := hid hown3
        clear hown3 hg3 hwh3 c3
        have c3 := (HA1.out.2.1.keeps HK3.out (by simp)).cell (i := 3) rfl
        replace HO2 : Hid (w3.ownsRow base 117 3 (.slice (some ⟨g, 0, none⟩) len cap) len (x.l.flatMap Bk.cells)) := hid (ownsRow_keeps HO2.out HK3.out (by simp))
        have HSR := hid (row_srcs (k := k + 1) HL.out HO2.out HKL.out)
        have B5 := wrap_small k (by omega)
        go_wp2_with (at_builtin; refine wpList_append_src rfl (.tmp 50) (.tmp 57) 114 rfl base 117 iT (.agg bk0.cells.toArray) 3 24 Tryd.underlying114 hiT hz0 hz1 hz2 rfl (by decide) v3 _ _ rfl HO3.out _ _ _ ((x.l.drop (k + 1)).flatMap Bk.cells) rfl (show Src w3 3 _ _ _ from by have h := (HSR.out.2.2 hck).1; have h2 := HLK.out; simpa [h2] using h) (bk_one _) (by clear B5; unfold maxLen; omega) (by clear B5; omega) (by have h1 := HW2.out; have h2 := HK3.out.size; clear B5; omega) ?_)
        intro v5 w5 hown5 hg5 hwh5
        clear B5
        have HK5 : Hid (Keeps [] w2 w5) := hid (HK3.out.drop (grown_list hg5) (fun z hz => .inr (HF3.out z (by simpa using hz))))
        have HF5 : Hid (∀ g, v5.ownBlock = some g → w2.heap.size ≤ g) := hid (fun g hg => by
          rcases hwh5 g hg with h | h
          · exact HF3.out g h
          · have h2 := HK3.out.size
            omega)
        obtain ⟨a5, m5, cap5, rfl⟩ : ∃ a m c, v5 = .slice a m c := by
          rcases hown5.2 with ⟨hv, _⟩ | ⟨_, _, _, hv, _⟩
          · exact ⟨_, _, _, hv⟩
          · exact ⟨_, _, _, hv⟩
        have HO5 := hid hown5
        clear hown5 hg5 hwh5 c3
        have hB5 := HA1.out.2.1.keeps HK5.out (by simp)
        have c3 := hB5.cell (i := 3) rfl
        have f3 := hB5.frozen 3
        clear hB5
        have HFIN := hid (rput_final HL.out HKL.out HLW.out HA1.out HM2.out HK2.out HK5.out HO5.out (by have := HLK.out; omega) (by first | rfl | simp) HF5.out)
        rcases HD.out with rfl | ⟨n0, kk, rfl, _, _⟩
        · obtain rfl : u = .pointer none := HDU.out
          go_wp2_with fail
          refine (kin_none allocS p _).mono ?_
          rintro e w8 ⟨rfl, rfl⟩
          go_wp2_with fail
          go_ret
          obtain ⟨q1, q2, q3, q4, _⟩ := HFIN.out
          exact ⟨_, rfl, ⟨_, q1, q2⟩, q3, q4, rfl⟩
        · have HF := hid (HFIN.out.2.2.2.2 _ _ _ HDU.out.1)
          obtain ⟨pb, _, _, _, _, _, _, rfl, _⟩ := HDU.out.1
          go_wp2_with fail
          refine (kin_one allocS p _ memS n0 kk _ HF.out).mono ?_
          rintro e w8 ⟨v8, rfl, hF8, hK8⟩
          go_wp2_with fail
          go_ret
          obtain ⟨q1, q2, q3, q4, _⟩ := HFIN.out
          exact ⟨_, rfl, ⟨_, q1.keeps hK8 (by simp) (by simp), q2⟩, q3.keeps hK8 (by simp) (by simp) (by simp), q4.trans (hK8.mono (by simp)), hF8⟩
      · have b5 := hck
        go_wp2_with (at_builtin; refine wpList_append_src rfl (.tmp 41) (.tmp 47) 114 rfl base 117 iT (.agg bk0.cells.toArray) 3 24 Tryd.underlying114 hiT hz0 hz1 hz2 rfl (by decide) _ 0 [] rfl (World.ownsRow_nil _ _ _ _) _ _ _ ((x.l.take k).flatMap Bk.cells) rfl (row_srcs HL.out HO2.out (Nat.le_of_lt HKL.out)).1 (bk_one _) (by unfold maxLen; omega) (by omega) HW2.out ?_)
        intro v3 w3 hown3 hg3 hwh3
        have HK3 : Hid (Keeps [] w2 w3) := hid ((grown_list hg3).mono (by simp [Value.ownBlock]))
        have HF3 : Hid (∀ g, v3.ownBlock = some g → w2.heap.size ≤ g) := hid (fun g hg => by have := hwh3 g hg; simpa [Value.ownBlock] using this)
        have HO3 := hid hown3
        clear hown3 hg3 hwh3 c3
        have c3 := (HA1.out.2.1.keeps HK3.out (by simp)).cell (i := 3) rfl
        replace HO2 : Hid (w3.ownsRow base 117 3 (.slice (some ⟨g, 0, none⟩) len cap) len (x.l.flatMap Bk.cells)) := hid (ownsRow_keeps HO2.out HK3.out (by simp))
        have HSR := hid (row_srcs (k := k + 1) HL.out HO2.out HKL.out)
        have HCK := hid b5
        have B5 := wrap_small k (by omega)
        go_wp2_with (at_builtin; refine wpList_append_src rfl (.tmp 50) (.tmp 57) 114 rfl base 117 iT (.agg bk0.cells.toArray) 3 24 Tryd.underlying114 hiT hz0 hz1 hz2 rfl (by decide) v3 _ _ rfl HO3.out _ _ _ ((x.l.drop (k + 1)).flatMap Bk.cells) rfl (HSR.out.2.1 g HCK.out rfl) (bk_one _) (by clear B5; unfold maxLen; omega) (by clear B5; omega) (by have h1 := HW2.out; have h2 := HK3.out.size; clear B5; omega) ?_)
        intro v5 w5 hown5 hg5 hwh5
        clear B5
        have HK5 : Hid (Keeps [] w2 w5) := hid (HK3.out.drop (grown_list hg5) (fun z hz => .inr (HF3.out z (by simpa using hz))))
        have HF5 : Hid (∀ g, v5.ownBlock = some g → w2.heap.size ≤ g) := hid (fun g hg => by
          rcases hwh5 g hg with h | h
          · exact HF3.out g h
          · have h2 := HK3.out.size
            omega)
        obtain ⟨a5, m5, cap5, rfl⟩ : ∃ a m c, v5 = .slice a m c := by
          rcases hown5.2 with ⟨hv, _⟩ | ⟨_, _, _, hv, _⟩
          · exact ⟨_, _, _, hv⟩
          · exact ⟨_, _, _, hv⟩
        have HO5 := hid hown5
        clear hown5 hg5 hwh5 c3
        have hB5 := HA1.out.2.1.keeps HK5.out (by simp)
        have c3 := hB5.cell (i := 3) rfl
        have f3 := hB5.frozen 3
        clear hB5
        have HFIN := hid (rput_final HL.out HKL.out HLW.out HA1.out HM2.out HK2.out HK5.out HO5.out (by have := HKL.out; omega) (by first | rfl | simp) HF5.out)
        rcases HD.out with rfl | ⟨n0, kk, rfl, _, _⟩
        · obtain rfl : u = .pointer none := HDU.out
          go_wp2_with fail
          refine (kin_none allocS p _).mono ?_
          rintro e w8 ⟨rfl, rfl⟩
          go_wp2_with fail
          go_ret
          obtain ⟨q1, q2, q3, q4, _⟩ := HFIN.out
          exact ⟨_, rfl, ⟨_, q1, q2⟩, q3, q4, rfl⟩
        · have HF := hid (HFIN.out.2.2.2.2 _ _ _ HDU.out.1)
          obtain ⟨pb, _, _, _, _, _, _, rfl, _⟩ := HDU.out.1
          go_wp2_with fail
          refine (kin_one allocS p _ memS n0 kk _ HF.out).mono ?_
          rintro e w8 ⟨v8, rfl, hF8, hK8⟩
          go_wp2_with fail
          go_ret
          obtain ⟨q1, q2, q3, q4, _⟩ := HFIN.out
          exact ⟨_, rfl, ⟨_, q1.keeps hK8 (by simp) (by simp), q2⟩, q3.keeps hK8 (by simp) (by simp) (by simp), q4.trans (hK8.mono (by simp)), hF8⟩
end Go.Proofs.YtmciclhifcjoiaaDoor
