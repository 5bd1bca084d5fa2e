/-
  The package alloc: Get.
-/
import Derived.Test.YtmciclhifcjoiaaDoorAl1
import Derived.Test.YtmciclhifcjoiaaDoorRow3
import Derived.Deep.RegionHeld3
namespace Go.Proofs.YtmciclhifcjoiaaDoor
open Go.RowKit

theorem infoBlock : (Tryd.prog.info? 66).map (fun i => (i.zero, i.size, i.bytes)) = some (some (.agg bk0.cells.toArray), 3, 24) := by kernel_rfl
theorem sizeBlock : (Tryd.prog.info? 66).map (·.size) = some 3 := by kernel_rfl

theorem drewN_drewN (w : World) (a b : Nat) : (w.drewN a).drewN b = w.drewN (a + b) := by
  simp [World.drewN, Nat.add_assoc]

/-- A block more, at place i. -/
def AS.ins (x : AS) (i : Nat) (b : Bk) : AS := { x with l := x.l.take i ++ (b :: x.l.drop i) }

section
variable (base ab mb : Nat) (lv : Value) (x : AS) (n wd : Int) (w : World) (hA : AllocAt w base ab mb lv x) (hx : x.ok)
include hA hx

set_option maxHeartbeats 1000000 in
omit hA hx in
theorem get_arg (h : n < 1 ∨ 4096 < n ∨ (wd ≠ 32 ∧ wd ≠ 64)) : Calls Tryd.prog 32 #[.pointer (some ⟨ab, 0, none⟩), .int .i64 n, .int .i64 wd] w fun e w' =>
    e = .returned (.tuple #[.int .i64 0, .iface 93 (.pointer (some ⟨w.heap.size, 0, none⟩))]) ∧ w.alloc (.cells #[.string allocS, .int .i64 0, .iface 30 (.int .i64 1)] 97) = w' := by
  have fin : ∀ q1 q2 q3 q4 : Bool, decide (n < 1) = q1 → decide (4096 < n) = q2 → (wd != 32) = q3 → (wd != 64) = q4 → (q1 = true ∨ q2 = true ∨ (q3 = true ∧ q4 = true)) →
      Calls Tryd.prog 32 #[.pointer (some ⟨ab, 0, none⟩), .int .i64 n, .int .i64 wd] w fun e w' =>
    e = .returned (.tuple #[.int .i64 0, .iface 93 (.pointer (some ⟨w.heap.size, 0, none⟩))]) ∧ w.alloc (.cells #[.string allocS, .int .i64 0, .iface 30 (.int .i64 1)] 97) = w' := by
    intro q1 q2 q3 q4 d1 d2 d3 d4 hq
    clear h
    cases q1 <;> cases q2 <;> cases q3 <;> cases q4 <;> simp at hq
    all_goals
      go_enter Tryd.func32, Tryd.ntmps32
      go_wp2_with fail
      refine (afail_any _ _ _ _).mono ?_
      rintro e w' ⟨rfl, rfl⟩
      go_wp2_with fail
      go_ret2
      exact ⟨rfl, rfl⟩
  refine fin _ _ _ _ rfl rfl rfl rfl ?_
  simpa using h

/-- Get that comes to its loop: no place before has room. -/
def GetPost (w : World) (base ab mb b cb wb : Nat) (lv : Value) (x : AS) (s' : MS) (i : Nat) (n wd : Int) (d : Option (List (ByteArray × Int) × Int)) (e : Ending) (w' : World) : Prop :=
  match d with
  | none => e = .returned (.tuple #[.int .i64 (endOf x.fr x.l i), .nilIface]) ∧ ∃ lv', AllocAt w' base ab mb lv' (x.ins i ⟨endOf x.fr x.l i, n, wd⟩) ∧ MemAt w' b cb wb s' ∧ Keeps ([ab, b, cb, wb] ++ lv.ownBlock.toList) w w' ∧ ∀ g, lv'.ownBlock = some g → lv.ownBlock = some g ∨ w.heap.size ≤ g
  | some (l, k) => ∃ u, e = .returned (.tuple #[.int .i64 0, u]) ∧ (∀ (S : List Nat) (w'' : World), Keeps S w' w'' → (∀ y, y ∈ S → y < w.heap.size) → ErrAt w'' u ((allocS, endOf x.fr x.l i) :: l) k) ∧ AllocAt w' base ab mb lv x ∧ MemAt w' b cb wb s' ∧ Keeps [b, cb, wb] w w'

set_option maxRecDepth 100000 in
set_option maxHeartbeats 2000000 in
theorem get_room (h1 : 1 ≤ n) (h2 : n ≤ 4096) (hv : wd = 32 ∨ wd = 64) (hno : ∀ i, i ≤ x.l.length → gapOf x.fr x.l x.til i < n) : Calls Tryd.prog 32 #[.pointer (some ⟨ab, 0, none⟩), .int .i64 n, .int .i64 wd] w fun e w' =>
    ∃ p, e = .returned (.tuple #[.int .i64 0, .iface 93 (.pointer (some ⟨p, 0, none⟩))]) ∧ w.heap.size ≤ p ∧ Blk w' p #[.string allocS, .int .i64 0, .iface 30 (.int .i64 3)] 97 ∧ Keeps [] w w' := by
  have HA := hid hA
  have HX := hid hx
  have HN := hid hno
  have hlen := hx.few
  clear hA hx hno
  generalize hL : x.l.length = len at *
  have HL := hid hL
  clear hL
  have d1 : decide (n < 1) = false := by simp; omega
  have d2 : decide (4096 < n) = false := by simp; omega
  rcases hv with rfl | rfl
  all_goals
    go_enter Tryd.func32, Tryd.ntmps32
    go_wp2_with fail
    go_loopw [8] (fun i wr => ∃ k : Nat, k ≤ len + 1 ∧ i = .int .i64 k ∧ Keeps [] w wr) (fun i _ => (len + 1 - (intOf i).toNat))
    case atStart => exact ⟨0, by omega, rfl, Keeps.refl _ _⟩
    case round =>
      obtain ⟨k, hk, rfl, hKR⟩ := hrel
      have hAR := HA.out.keeps hKR (by simp) (by simp)
      have c3 := hAR.2.1.cell (i := 3) rfl
      obtain ⟨a, cap, rfl, hrows⟩ := rows_at hAR.2.2
      rw [HL.out] at c3
      have hAR := hid hAR
      clear hrows
      by_cases hlt : k ≤ len
      · have hgp := HX.out.chain.gap (i := k) (by rw [HL.out]; omega)
        have hlo := HX.out.lo
        have hhi := HX.out.hi
        have hgn := HN.out k hlt
        unfold gapOf at hgn
        go_wp2_with fail
        refine (end_any base ab mb _ x _ hAR.out HX.out k (by rw [HL.out]; omega)).mono ?_
        rintro e w1 ⟨rfl, q, rfl⟩
        go_wp2_with fail
        refine (start_any base ab mb _ x _ (hAR.out.drewN q) HX.out k (by rw [HL.out]; omega)).mono ?_
        rintro e w1 ⟨rfl, rfl⟩
        generalize startOf x.l x.til k = st at *
        generalize endOf x.fr x.l k = en at *
        have d3 : decide (st - en < n) = true := by simpa using hgn
        go_wp2_with fail
        go_roundw
        case rel => exact ⟨k + 1, by omega, by go_num, hKR.drewN q⟩
        case measure => simp [intOf]; omega
      · obtain rfl : k = len + 1 := by omega
        go_wp2_with fail
        refine (afail_any _ _ _ _).mono ?_
        rintro e w1 ⟨rfl, rfl⟩
        go_wp2_with fail
        go_ret2
        exact ⟨_, rfl, hKR.size, Blk.fresh _ _ _, hKR.alloc _⟩

omit hA hx in
set_option maxRecDepth 100000 in
set_option maxHeartbeats 4000000 in
theorem get_fail (b cb wb : Nat) (s s' : MS) (l : List (ByteArray × Int)) (kk : Int) (hA : AllocAt w base ab b lv x) (hx : x.ok) (hM : MemAt w b cb wb s) (hbase : base ≤ w.heap.size) (hlow : b < base ∧ cb < base ∧ wb < base ∧ ab ≠ b ∧ ab ≠ cb ∧ ab ≠ wb) (h1 : 1 ≤ n) (h2 : n ≤ 4096) (hv : wd = 32 ∨ wd = 64)
    (i0 : Nat) (hi : i0 ≤ x.l.length) (hgap : n ≤ gapOf x.fr x.l x.til i0) (hbefore : ∀ i, i < i0 → gapOf x.fr x.l x.til i < n)
    (hmp : ∀ w1, MemAt w1 b cb wb s → Calls Tryd.prog 20 #[.pointer (some ⟨b, 0, none⟩), .int .i64 (endOf x.fr x.l i0), .int .i64 n, .int .i64 wd] w1 (MPost w1 b cb wb s' (some (l, kk)))) :
    Calls Tryd.prog 32 #[.pointer (some ⟨ab, 0, none⟩), .int .i64 n, .int .i64 wd] w (GetPost w base ab b b cb wb lv x s' i0 n wd (some (l, kk))) := by
  obtain ⟨iT, hiT, hz0, hz1, hz2⟩ := info_parts infoBlock
  have HA := hid hA
  have HX := hid hx
  have HN := hid hbefore
  have HGP := hid hgap
  have HM := hid hM
  have HMP := hid hmp
  have HLW := hid hlow
  have HBS := hid hbase
  have hlen := hx.few
  clear hA hx hbefore hgap hM hmp hlow hbase
  generalize hL : x.l.length = len at *
  have HL := hid hL
  clear hL
  have d1 : decide (n < 1) = false := by simp; omega
  have d2 : decide (4096 < n) = false := by simp; omega
  rcases hv with rfl | rfl
  all_goals
    go_enter Tryd.func32, Tryd.ntmps32
    go_wp2_with fail
    go_loopw [8] (fun i wr => ∃ k : Nat, k ≤ i0 ∧ i = .int .i64 k ∧ ∃ q, wr = w.drewN q) (fun i _ => (i0 + 1 - (intOf i).toNat))
    case atStart => exact ⟨0, by omega, rfl, 0, rfl⟩
    case round =>
      obtain ⟨k, hk, rfl, q0, rfl⟩ := hrel
      have hAR := HA.out.drewN q0
      have c3 := hAR.2.1.cell (i := 3) rfl
      have c0 := hAR.2.1.cell (i := 0) rfl
      obtain ⟨a, cap, rfl, hrows⟩ := rows_at hAR.2.2
      rw [HL.out] at c3
      have hAR := hid hAR
      clear hrows
      have hgp := HX.out.chain.gap (i := k) (by rw [HL.out]; omega)
      have hlo := HX.out.lo
      have hhi := HX.out.hi
      by_cases hlt : k < i0
      · have hgn := HN.out k hlt
        unfold gapOf at hgn
        clear c0
        go_wp2_with fail
        refine (end_any base ab b _ x _ hAR.out HX.out k (by rw [HL.out]; omega)).mono ?_
        rintro e w1 ⟨rfl, q, rfl⟩
        go_wp2_with fail
        refine (start_any base ab b _ x _ (HA.out.drewN (q0 + q)) HX.out k (by rw [HL.out]; omega)).mono ?_
        rintro e w1 ⟨rfl, rfl⟩
        generalize startOf x.l x.til k = st at *
        generalize endOf x.fr x.l k = en at *
        have d3 : decide (st - en < n) = true := by simpa using hgn
        go_wp2_with fail
        go_roundw
        case rel => exact ⟨k + 1, by omega, by go_num, q0 + q, rfl⟩
        case measure => simp [intOf]; omega
      · obtain rfl : k = i0 := by omega
        have hgn := HGP.out
        unfold gapOf at hgn
        go_wp2_with fail
        refine (end_any base ab b _ x _ hAR.out HX.out k (by rw [HL.out]; omega)).mono ?_
        rintro e w1 ⟨rfl, q, rfl⟩
        clear c0 c3
        have hAR : Hid (AllocAt ((w.drewN q0).drewN q) base ab b (.slice a x.l.length cap) x) := hid (hAR.out.drewN q)
        have HMR : Hid (MemAt ((w.drewN q0).drewN q) b cb wb s) := hid HM.out
        have HKR : Hid (Keeps [] w ((w.drewN q0).drewN q)) := hid (((Keeps.refl _ _).drewN _).drewN _)
        have HSZ : Hid (((w.drewN q0).drewN q).heap.size = w.heap.size) := hid rfl
        generalize (w.drewN q0).drewN q = wr at *
        have c0 := hAR.out.2.1.cell (i := 0) rfl
        have c3 := hAR.out.2.1.cell (i := 3) rfl
        rw [HL.out] at c3
        go_wp2_with fail
        refine (start_any base ab b _ x _ hAR.out HX.out k (by rw [HL.out]; omega)).mono ?_
        rintro e w1 ⟨rfl, rfl⟩
        generalize startOf x.l x.til k = st at *
        generalize hen : endOf x.fr x.l k = en at *
        have HE := hid hen
        clear hen
        have d3 : decide (st - en < n) = false := by simp; omega
        go_wp2_with fail
        refine (HMP.out _ HMR.out).mono ?_
        rintro e w2 ⟨u, rfl, hEf, hM2, hK2⟩
        have hE2 := hEf [] w2 (Keeps.refl _ _) (by simp)
        obtain ⟨T, y, rfl⟩ := ErrAt.iface hE2
        clear c0 c3 hE2
        go_wp2_with fail
        refine (afail_any _ _ _ _).mono ?_
        rintro e w3 ⟨rfl, rfl⟩
        go_wp2_with fail
        go_ret2
        have hlw := HLW.out
        have hs2 := hK2.size
        have hsz := HSZ.out
        refine ⟨_, rfl, fun S w' hK hS => ⟨_, _, rfl, by rw [HE.out]; exact (Blk.fresh w2 _ _).keeps hK (fun hh => by have := hS _ hh; omega), hEf S w' ?_ (fun y hy => by rw [hsz]; exact hS y hy)⟩, (hAR.out.keeps hK2 (by simp; omega) (by simp; omega)).keeps ((Keeps.refl [] _).alloc _) (by simp) (by simp), hM2.alloc _, ((HKR.out.mono (by simp)).trans hK2).alloc _⟩
        exact (((Keeps.refl [] w2).alloc _).mono (by simp)).trans hK
end
end Go.Proofs.YtmciclhifcjoiaaDoor
