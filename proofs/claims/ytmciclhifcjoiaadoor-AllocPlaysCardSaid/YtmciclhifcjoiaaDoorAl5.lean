/-
  The package alloc: Put that finds its block. (Printed by gen_al5.py.)
-/
import Derived.Test.YtmciclhifcjoiaaDoorAl4
namespace Go.Proofs.YtmciclhifcjoiaaDoor
open Go.RowKit

theorem put_mid {w w1 w6 : World} {base ab b cb wb g X k n' cap : Nat} {x : AS} {s : MS} {c : Array Value} (hlow : b < base ∧ cb < base ∧ wb < base ∧ ab ≠ b ∧ ab ≠ cb ∧ ab ≠ wb) (hbg : base ≤ g) (_hbs : base ≤ w.heap.size) (hX : w.heap.size ≤ X)
    (HM : MemAt w1 b cb wb s) (HX : Blk w1 X c 66) (HK : Keeps [ab, g] w1 w6) (HA : AllocAt w6 base ab b (.slice (some ⟨g, 0, none⟩) n' cap) (x.del k)) (hgw : g < w.heap.size) :
    Hid (MemAt w6 b cb wb s) ∧ Hid (Blk w6 X c 66) ∧ Hid (X ∉ [b, cb, wb]) ∧ Hid (ab ∉ [b, cb, wb]) ∧ Hid (Blk w6 ab #[.pointer (some ⟨b, 0, none⟩), .int .i64 x.fr, .int .i64 x.til, .slice (some ⟨g, 0, none⟩) n' cap] 108) := by
  have hab := HA.1
  exact ⟨hid (HM.keeps HK (by simp; omega) (by simp; omega) (by simp; omega)), hid (HX.keeps HK (by simp; omega)), hid (by simp; omega), hid (by simp; omega), hid HA.2.1⟩

theorem put_end {w w1 w6 w7 w8 : World} {base ab b cb wb g k len cap cap2 n' : Nat} {x : AS} {s' : MS} {v : Value} (_hL : x.l.length = len) (_hk : k < len) (hlow : b < base ∧ cb < base ∧ wb < base ∧ ab ≠ b ∧ ab ≠ cb ∧ ab ≠ wb) (hbg : base ≤ g) (_hbs : base ≤ w.heap.size)
    (HK1 : Keeps [] w w1) (HK6 : Keeps [ab, g] w1 w6) (HA : AllocAt w6 base ab b (.slice (some ⟨g, 0, none⟩) n' cap) (x.del k)) (hM : MemAt w7 b cb wb s') (hK7 : Keeps [b, cb, wb] w6 w7) (hK8 : Keeps [] w7 w8) (_hv : v = v) :
    (∃ lv', AllocAt w8 base ab b lv' (x.del k) ∧ lv'.ownBlock = (Value.slice (some ⟨g, 0, none⟩) len cap2).ownBlock) ∧ MemAt w8 b cb wb s' ∧ Keeps ([ab, b, cb, wb] ++ (Value.slice (some ⟨g, 0, none⟩) len cap2).ownBlock.toList) w w8 := by
  have hab := HA.1
  refine ⟨⟨_, (HA.keeps hK7 (by simp; omega) (by simp; omega)).keeps hK8 (by simp) (by simp), rfl⟩, hM.keeps hK8 (by simp) (by simp) (by simp), ?_⟩
  exact (((HK1.mono (by simp)).trans (HK6.mono (by intro z hz; simp at hz; simp [Value.ownBlock]; omega))).trans (hK7.mono (by intro z hz; simp at hz; simp [Value.ownBlock]; omega))).trans (hK8.mono (by simp))

section
variable (base ab : Nat) (lv : Value) (x : AS) (p : Int) (w : World)

set_option maxRecDepth 100000 in
set_option maxHeartbeats 4000000 in
theorem put_found (b cb wb : Nat) (s s' : MS) (d : Option (List (ByteArray × Int) × Int)) (hA : AllocAt w base ab b lv x) (hx : x.ok) (hM : MemAt w b cb wb s) (hbase : base ≤ w.heap.size) (hlow : b < base ∧ cb < base ∧ wb < base ∧ ab ≠ b ∧ ab ≠ cb ∧ ab ≠ wb)
    (i0 : Nat) (y : Bk) (hi : x.l[i0]? = some y) (hp : y.pos = p) (hbefore : ∀ (i : Nat) (r : Bk), i < i0 → x.l[i]? = some r → r.pos ≠ p)
    (hmp : ∀ w1, MemAt w1 b cb wb s → Calls Tryd.prog 25 #[.pointer (some ⟨b, 0, none⟩), .int .i64 p, .int .i64 y.n] w1 (MPost w1 b cb wb s' d)) :
    Calls Tryd.prog 33 #[.pointer (some ⟨ab, 0, none⟩), .int .i64 p] w (PutPost w base ab b cb wb lv x s' i0 p d) := by
  obtain ⟨iT, hiT, hz0, hz1, hz2⟩ := info_parts infoBlock
  have hi0 : i0 < x.l.length := (List.getElem?_eq_some_iff.1 hi).1
  obtain ⟨g, cap, sp, rfl, hbg, hBg, hc1, hc2, hc3⟩ : ∃ (g cap : Nat) (sp : List Value), lv = .slice (some ⟨g, 0, none⟩) x.l.length cap ∧ base ≤ g ∧ Blk w g (x.l.flatMap Bk.cells ++ sp).toArray 66 ∧ x.l.length ≤ cap ∧ cap ≤ maxLen ∧ (x.l.flatMap Bk.cells).length + sp.length = cap * 3 := by
    have h := hA.2.2
    obtain ⟨n, hn⟩ : ∃ n, x.l.length = n + 1 := ⟨x.l.length - 1, by omega⟩
    rw [hn] at h ⊢
    exact run_slots h
  have c3 := hA.2.1.cell (i := 3) rfl
  have HA := hid hA
  have HM := hid hM
  have HN := hid hbefore
  have HI := hid hi
  have HP := hid hp
  have HMP := hid hmp
  have HLW := hid hlow
  have HBS := hid hbase
  have HBg := hid hBg
  have HBG := hid hbg
  have HC2 := hid hc2
  have HC3 := hid hc3
  have hlen := hx.few
  clear hA hx hbefore hM hmp hlow hbase hi hp hBg hbg hc2 hc3
  generalize hL : x.l.length = len at *
  have HL := hid hL
  clear hL
  go_enter Tryd.func33, Tryd.ntmps33
  go_wp2_with fail
  go_loopw [13] (fun i wr => ∃ k : Nat, k ≤ i0 ∧ i = .int .i64 k ∧ Keeps [] w wr) (fun i _ => (i0 + 1 - (intOf i).toNat))
  case atStart => exact ⟨0, by omega, rfl, Keeps.refl _ _⟩
  case round =>
    obtain ⟨k, hk, rfl, hKR⟩ := hrel
    obtain ⟨r, hr⟩ : ∃ r, x.l[k]? = some r := ⟨_, List.getElem?_eq_getElem (by rw [HL.out]; omega)⟩
    have hBr := HBg.out.keeps hKR (by simp)
    have key : ∀ j v, j < 3 → r.cells[j]? = some v → wr.cell? ⟨g, k * 3 + j, none⟩ = some v := by
      intro j v hj hv
      have hf := flat_get Bk.cells_length x.l k j hj
      rw [hr] at hf
      refine hBr.cell ?_
      have hlt : k * 3 + j < (x.l.flatMap Bk.cells).length := by rw [flat_length Bk.cells_length, HL.out]; omega
      rw [List.getElem?_toArray, List.getElem?_append_left hlt, hf]
      exact hv
    have e0 : wr.cell? ⟨g, k * 3, none⟩ = some (.int .i64 r.pos) := key 0 _ (by omega) rfl
    have e1 : wr.cell? ⟨g, k * 3 + 1, none⟩ = some (.int .i64 r.n) := key 1 _ (by omega) rfl
    have e2 : wr.cell? ⟨g, k * 3 + 2, none⟩ = some (.int .i64 r.wd) := key 2 _ (by omega) rfl
    have HBR := hid hBr
    clear key hBr
    by_cases hlt : k < i0
    · have hne := HN.out k r hlt hr
      have hpp : (r.pos != p) = true := by simpa using hne
      clear hr hne
      generalize r.pos = rp at *
      generalize r.n = rn at *
      generalize r.wd = rw_ at *
      go_wp2_with fail
      go_roundw
      case rel => exact ⟨k + 1, by omega, by go_num, hKR.alloc _⟩
      case measure => simp [intOf]; omega
    · obtain rfl : k = i0 := by omega
      obtain rfl : r = y := by have h := HI.out; rw [hr] at h; exact Option.some.inj h
      have hpos := HP.out
      rw [hpos] at e0
      have hpp : (p != p) = false := by simp
      clear hr hpos
      have c3r := (HA.out.keeps hKR (by simp) (by simp)).2.1.cell (i := 3) rfl
      go_wp2_with fail
      obtain ⟨X, hX⟩ : ∃ X, X = wr.heap.size := ⟨_, rfl⟩
      have HX := hid (Blk.fresh_at hX #[.int .i64 p, .int .i64 r.n, .int .i64 r.wd] 66)
      have HK1 := hid (hKR.alloc (.cells #[.int .i64 p, .int .i64 r.n, .int .i64 r.wd] 66))
      have HWX : Hid (w.heap.size ≤ X) := hid (hX ▸ hKR.size)
      rw [← hX]
      generalize (wr.alloc (.cells #[.int .i64 p, .int .i64 r.n, .int .i64 r.wd] 66)) = w1 at *
      have HB4 : Hid (Blk w1.drew ab #[.pointer (some ⟨b, 0, none⟩), .int .i64 x.fr, .int .i64 x.til, .slice (some ⟨g, 0, none⟩) len cap] 108) := by
        have h := (HA.out.keeps HK1.out.drew (by simp) (by simp)).2.1
        exact hid h
      have HG4 : Hid (Blk w1.drew g (x.l.flatMap Bk.cells ++ sp).toArray 66) := hid (HBg.out.keeps HK1.out.drew (by simp))
      have HM4 : Hid (MemAt w1.drew b cb wb s) := hid (HM.out.keeps HK1.out.drew (by simp) (by simp) (by simp))
      replace HX : Hid (Blk w1.drew X #[.int .i64 p, .int .i64 r.n, .int .i64 r.wd] 66) := hid HX.out
      replace HK1 : Hid (Keeps [] w w1.drew) := hid HK1.out.drew
      have HAB : Hid (ab < base) := hid HA.out.1
      have HNE : Hid (ab ∉ [g]) := hid (by have h1 := HBG.out; have h2 := HAB.out; simp; omega)
      have HKL : Hid (k < len) := hid hi0
      obtain ⟨HCN, HSRC, HONE, HFIT, HSP, HSRC0⟩ := del_facts x.l sp k len g w1.drew HL.out hi0 HG4.out
      clear e0 e1 e2 c3 c3r hpp hX HBR
      have c3 := HB4.out.cell (i := 3) rfl
      have f3 := HB4.out.frozen 3
      have b1 : k ≤ len := by omega
      have b2 : k ≤ cap := by omega
      have b3 : ¬ cap = 0 := by omega
      have b6 : (k : Int) ≤ (len : Int) := by omega
      have b7 : (k : Int) ≤ (cap : Int) := by omega
      have b8 : (0 : Int) ≤ (k : Int) + 1 := by omega
      have b9 : (k : Int) + 1 ≤ (len : Int) := by omega
      have b10 : k + 1 ≤ len := by omega
      have HROOM : Hid (k + (len - (k + 1)) ≤ cap) := hid (by omega)
      have B5 := hid (wrap_small k (by omega))
      generalize x.l.flatMap Bk.cells ++ sp = CUR at *
      generalize (x.l.drop (k + 1)).flatMap Bk.cells = CS at *
      by_cases hck : cap = k + 1
      · have HLK : Hid (len = k + 1) := hid (by omega)
        have HSRC1 := hid (HSRC0.out HLK.out)
        subst hck
        replace HCN : Hid (CS.length = 0 * 3) := hid (by have h := HCN.out; have h2 := HLK.out; omega)
        replace HROOM : Hid (k + 0 ≤ k + 1) := hid (by omega)
        have b11 : (k : Int) ≤ (k : Int) + 1 := by omega
        have b12 : k ≤ k + 1 := by omega
        have b5 := B5.out
        go_region_law (first | (refine step_append_rows rfl (.tmp 28) (.tmp 35) 63 rfl 66 iT 3 Tryd.underlying63 hiT hz1 g k (k + 1) rfl _ _ _ CS rfl HCN.out HSRC1.out HONE.out HROOM.out CUR 66 HG4.out HFIT.out ?_; intro w5 HG5 HK5; have c35 := (HB4.out.keeps HK5.out HNE.out).cell (i := 3) rfl; have f35 := (HB4.out.keeps HK5.out HNE.out).frozen 3))
        all_goals
          have hf := put_final (w6 := w5.setCell ⟨ab, 3, none⟩ (.slice (some ⟨g, 0, none⟩) k (k + 1))) HL.out HKL.out HBG.out HAB.out hc1 HC2.out HC3.out HB4.out HG5.out HK5.out k (by have := HKL.out; (try have := HLK.out); omega) HSP.out rfl
          obtain ⟨hA6, hK6⟩ := hf
          clear c3 f3 c35 f35
          generalize (w5.setCell ⟨ab, 3, none⟩ (.slice (some ⟨g, 0, none⟩) k (k + 1))) = w6 at *
          have HA6 : Hid (AllocAt w6.drew base ab b (.slice (some ⟨g, 0, none⟩) k (k + 1)) (x.del k)) := hid hA6
          have HK6 : Hid (Keeps [ab, g] w1.drew w6.drew) := hid hK6.drew
          clear hA6 hK6
          obtain ⟨HM6, HX6, HN1, HN2, HB6⟩ := put_mid HLW.out HBG.out HBS.out HWX.out HM4.out HX.out HK6.out HA6.out HBg.out.lt
          go_wp2_with fail
          go_region_held3 (fun W => W.cell? ⟨ab, 0, none⟩ = some (.pointer (some ⟨b, 0, none⟩)) ∧ W.cell? ⟨X, 0, none⟩ = some (.int .i64 p) ∧ W.cell? ⟨X, 1, none⟩ = some (.int .i64 r.n)) (exact ⟨HB6.out.cell (i := 0) rfl, HX6.out.cell (i := 0) rfl, HX6.out.cell (i := 1) rfl⟩)
            ((go_at_call 25; refine (HMP.out _ HM6.out).mono ?_; rintro e w7 ⟨u, rfl, hEf, hM7, hK7⟩; replace HX6 : Hid (Blk w7 X #[.int .i64 p, .int .i64 r.n, .int .i64 r.wd] 66) := hid (HX6.out.keeps hK7 HN1.out); replace HB6 : Hid (Blk w7 ab #[.pointer (some ⟨b, 0, none⟩), .int .i64 x.fr, .int .i64 x.til, .slice (some ⟨g, 0, none⟩) k (k + 1)] 108) := hid (HB6.out.keeps hK7 HN2.out)))
          have HEND := hid (fun (v : Value) (w8 : World) (hK8 : Keeps [] w7 w8) => put_end (v := v) (cap2 := (k + 1)) HL.out HKL.out HLW.out HBG.out HBS.out HK1.out HK6.out HA6.out hM7 hK7 hK8 rfl)
          have hu := hEf [] w7 (Keeps.refl _ _) (by simp)
          have HEF := hid hEf
          clear hEf
          cases d with
          | none =>
            obtain rfl : u = .nilIface := hu
            go_wp2_with fail
            go_ret
            obtain ⟨q1, q2, q3⟩ := HEND.out .nilIface w7 (Keeps.refl _ _)
            exact ⟨_, rfl, q1, q2, q3, rfl⟩
          | some dd =>
            obtain ⟨l, kk⟩ := dd
            have hu : ErrAt w7 u l kk := hu
            obtain ⟨T, yy, rfl⟩ := ErrAt.iface hu
            go_wp2_with fail
            refine (afail_any _ _ _ _).mono ?_
            rintro e w8 ⟨rfl, rfl⟩
            go_wp2_with fail
            go_ret
            obtain ⟨q1, q2, q3⟩ := HEND.out .nilIface _ ((Keeps.refl [] w7).alloc _)
            refine ⟨_, rfl, q1, q2, q3, fun S w' hK hS => ⟨_, _, rfl, (Blk.fresh w7 _ _).keeps hK (fun hh => ?_), HEF.out S w' ?_ (fun z hz => ?_)⟩⟩
            · have h1 := hS _ hh
              have h2 := hK7.size
              have h3 := HK6.out.size
              have h4 := HK1.out.size
              omega
            · exact (((Keeps.refl [] w7).alloc _).mono (by simp)).trans hK
            · have h1 := hS z hz
              have h3 := HK6.out.size
              have h4 := HK1.out.size
              omega
      · have b5 := B5.out
        go_region_law (first | (refine step_append_rows rfl (.tmp 28) (.tmp 35) 63 rfl 66 iT 3 Tryd.underlying63 hiT hz1 g k cap rfl _ _ _ CS rfl HCN.out HSRC.out HONE.out HROOM.out CUR 66 HG4.out HFIT.out ?_; intro w5 HG5 HK5; have c35 := (HB4.out.keeps HK5.out HNE.out).cell (i := 3) rfl; have f35 := (HB4.out.keeps HK5.out HNE.out).frozen 3))
        all_goals
          have hf := put_final (w6 := w5.setCell ⟨ab, 3, none⟩ (.slice (some ⟨g, 0, none⟩) (k + (len - (k + 1))) cap)) HL.out HKL.out HBG.out HAB.out hc1 HC2.out HC3.out HB4.out HG5.out HK5.out (k + (len - (k + 1))) (by have := HKL.out; (try have := HLK.out); omega) HSP.out rfl
          obtain ⟨hA6, hK6⟩ := hf
          clear c3 f3 c35 f35
          generalize (w5.setCell ⟨ab, 3, none⟩ (.slice (some ⟨g, 0, none⟩) (k + (len - (k + 1))) cap)) = w6 at *
          have HA6 : Hid (AllocAt w6.drew base ab b (.slice (some ⟨g, 0, none⟩) (k + (len - (k + 1))) cap) (x.del k)) := hid hA6
          have HK6 : Hid (Keeps [ab, g] w1.drew w6.drew) := hid hK6.drew
          clear hA6 hK6
          obtain ⟨HM6, HX6, HN1, HN2, HB6⟩ := put_mid HLW.out HBG.out HBS.out HWX.out HM4.out HX.out HK6.out HA6.out HBg.out.lt
          go_wp2_with fail
          go_region_held3 (fun W => W.cell? ⟨ab, 0, none⟩ = some (.pointer (some ⟨b, 0, none⟩)) ∧ W.cell? ⟨X, 0, none⟩ = some (.int .i64 p) ∧ W.cell? ⟨X, 1, none⟩ = some (.int .i64 r.n)) (exact ⟨HB6.out.cell (i := 0) rfl, HX6.out.cell (i := 0) rfl, HX6.out.cell (i := 1) rfl⟩)
            ((go_at_call 25; refine (HMP.out _ HM6.out).mono ?_; rintro e w7 ⟨u, rfl, hEf, hM7, hK7⟩; replace HX6 : Hid (Blk w7 X #[.int .i64 p, .int .i64 r.n, .int .i64 r.wd] 66) := hid (HX6.out.keeps hK7 HN1.out); replace HB6 : Hid (Blk w7 ab #[.pointer (some ⟨b, 0, none⟩), .int .i64 x.fr, .int .i64 x.til, .slice (some ⟨g, 0, none⟩) (k + (len - (k + 1))) cap] 108) := hid (HB6.out.keeps hK7 HN2.out)))
          have HEND := hid (fun (v : Value) (w8 : World) (hK8 : Keeps [] w7 w8) => put_end (v := v) (cap2 := cap) HL.out HKL.out HLW.out HBG.out HBS.out HK1.out HK6.out HA6.out hM7 hK7 hK8 rfl)
          have hu := hEf [] w7 (Keeps.refl _ _) (by simp)
          have HEF := hid hEf
          clear hEf
          cases d with
          | none =>
            obtain rfl : u = .nilIface := hu
            go_wp2_with fail
            go_ret
            obtain ⟨q1, q2, q3⟩ := HEND.out .nilIface w7 (Keeps.refl _ _)
            exact ⟨_, rfl, q1, q2, q3, rfl⟩
          | some dd =>
            obtain ⟨l, kk⟩ := dd
            have hu : ErrAt w7 u l kk := hu
            obtain ⟨T, yy, rfl⟩ := ErrAt.iface hu
            go_wp2_with fail
            refine (afail_any _ _ _ _).mono ?_
            rintro e w8 ⟨rfl, rfl⟩
            go_wp2_with fail
            go_ret
            obtain ⟨q1, q2, q3⟩ := HEND.out .nilIface _ ((Keeps.refl [] w7).alloc _)
            refine ⟨_, rfl, q1, q2, q3, fun S w' hK hS => ⟨_, _, rfl, (Blk.fresh w7 _ _).keeps hK (fun hh => ?_), HEF.out S w' ?_ (fun z hz => ?_)⟩⟩
            · have h1 := hS _ hh
              have h2 := hK7.size
              have h3 := HK6.out.size
              have h4 := HK1.out.size
              omega
            · exact (((Keeps.refl [] w7).alloc _).mono (by simp)).trans hK
            · have h1 := hS z hz
              have h3 := HK6.out.size
              have h4 := HK1.out.size
              omega
end
end Go.Proofs.YtmciclhifcjoiaaDoor
