/-
  MemApart: the walk of the statement's own function out of the contracts of mem.
-/
import Derived.Test.YtmciclhifcjoiaaLaw02
import Derived.Test.YtmciclhifcjoiaaRowIn
import Derived.Deep.Cut
import Derived.Deep.CutRange
import Derived.Deep.CutBlock
import Derived.Deep.DeepCutAuto
namespace Go.Proofs.Ytmciclhifcjoiaa
open Go.RowKit

/-- Sixteen numbers, the first k of them set. -/
def setTo (zs : List Int) : Nat → List Int
  | 0 => List.replicate 16 0
  | k + 1 => (setTo zs k).set k (zs.getD k 0)

theorem setTo_length (zs : List Int) (k : Nat) : (setTo zs k).length = 16 := by
  induction k with
  | zero => rfl
  | succ k ih => simp [setTo, ih]

/-- Sixteen wide cells. -/
def sixteen (h : List Int) (c : Int) : MS := ⟨List.replicate 16 64, h, 16, c⟩

theorem sixteen_width (h : List Int) (c a : Int) (h0 : 0 ≤ a) (h1 : a < 16) : (sixteen h c).width.getD a.toNat 0 = 64 := by
  have h2 : a.toNat < 16 := by omega
  show (List.replicate 16 (64 : Int)).getD a.toNat 0 = 64
  rw [List.getD_eq_getElem?_getD, List.getElem?_replicate, if_pos h2]
  rfl

section
variable (b cb wb : Nat) (h : List Int) (c a o v : Int) (w : World) (hM : MemAt w b cb wb (sixteen h c)) (h0 : 0 ≤ a) (h1 : a < 16)
include hM h0 h1
theorem six_store : Calls Try.prog 7 #[.pointer (some ⟨b, 0, none⟩), .int .u64 a, .int .u64 v] w fun e w' =>
    e = .returned .nilIface ∧ MemAt w' b cb wb (sixteen (h.set a.toNat v) (wrap64 (c + 1))) ∧ Keeps [b, cb] w w' := by
  have e := sixteen_width h c a h0 h1
  have k := store_ok b cb wb (sixteen h c) a v w hM h0 (by rw [e]; omega)
  rw [e, cut64'] at k
  exact k
theorem six_load : Calls Try.prog 10 #[.pointer (some ⟨b, 0, none⟩), .int .u64 a] w fun e w' =>
    e = .returned (.tuple #[.int .u64 (h.getD a.toNat 0), .nilIface]) ∧ MemAt w' b cb wb (sixteen h (wrap64 (c + 1))) ∧ Keeps [b, cb] w w' :=
  load_ok b cb wb (sixteen h c) a w hM h0 (by rw [sixteen_width h c a h0 h1]; omega)
theorem six_swap : Calls Try.prog 16 #[.pointer (some ⟨b, 0, none⟩), .int .u64 a, .int .u64 v] w fun e w' =>
    e = .returned (.tuple #[.int .u64 (h.getD a.toNat 0), .nilIface]) ∧ MemAt w' b cb wb (sixteen (h.set a.toNat v) (wrap64 (c + 1))) ∧ Keeps [b, cb] w w' := by
  have e := sixteen_width h c a h0 h1
  have k := swap_ok b cb wb (sixteen h c) a v w hM h0 (by rw [e]; omega)
  rw [e, cut64'] at k
  exact k
theorem six_add : Calls Try.prog 13 #[.pointer (some ⟨b, 0, none⟩), .int .u64 a, .int .u64 v] w fun e w' =>
    e = .returned (.tuple #[.int .u64 (h.getD a.toNat 0), .nilIface]) ∧ MemAt w' b cb wb (sixteen (h.set a.toNat (sumI 64 (h.getD a.toNat 0) v)) (wrap64 (c + 1))) ∧ Keeps [b, cb] w w' := by
  have e := sixteen_width h c a h0 h1
  have k := add_ok b cb wb (sixteen h c) a v w hM h0 (by rw [e]; omega)
  rw [e] at k
  exact k
theorem six_cas : Calls Try.prog 9 #[.pointer (some ⟨b, 0, none⟩), .int .u64 a, .int .u64 o, .int .u64 v] w fun e w' =>
    e = .returned (.tuple #[.int .u64 (h.getD a.toNat 0), .nilIface]) ∧ MemAt w' b cb wb (sixteen (if h.getD a.toNat 0 = o then h.set a.toNat v else h) (wrap64 (c + 1))) ∧ Keeps [b, cb] w w' := by
  have e := sixteen_width h c a h0 h1
  have k := cas_ok b cb wb (sixteen h c) a o v w hM h0 (by rw [e]; omega)
  have hh : (sixteen h c).hold = h := rfl
  by_cases hq : h.getD a.toNat 0 = o
  · rw [MS.acc_cas_yes _ _ _ _ (by rw [e, cut64', hh]; exact hq), e, cut64'] at k
    rw [if_pos hq]
    exact k
  · rw [MS.acc_cas_no _ _ _ _ (by rw [e, cut64', hh]; exact hq)] at k
    rw [if_neg hq]
    exact k
end

theorem six_full (w : World) : Calls Try.prog 6 #[.int .i64 16] w (FullPost w 16) := full_any 16 w (by omega) (by omega)
theorem full_six {w : World} {b cb wb : Nat} (h : MemAt w b cb wb (MS.full 16)) (zs : List Int) : MemAt w b cb wb (sixteen (setTo zs 0) 0) := h

theorem getD_set_ne (h : List Int) (i j : Nat) (v : Int) (hne : i ≠ j) : (h.set i v).getD j 0 = h.getD j 0 := by
  simp [List.getD_eq_getElem?_getD, hne]

/-- Between the statement's two loops: the memory and the array that is compared with it hold the same sixteen numbers. -/
def Apart (w wx : World) (b cb wb q : Nat) (box : Array Value) (h : List Int) : Prop :=
  ∃ c, h.length = 16 ∧ MemAt wx b cb wb (sixteen h c) ∧ Blk wx q (ints .u64 h) 42 ∧ Blk wx w.heap.size box 41 ∧ Keeps [] w wx

/-- Behind the access: the memory may hold another number at 'at'. -/
def Apart2 (w wx : World) (b cb wb q : Nat) (h : List Int) (a : Int) : Prop :=
  ∃ c h', MemAt wx b cb wb (sixteen h' c) ∧ Blk wx q (ints .u64 h) 42 ∧ Keeps [] w wx ∧ ∀ j : Nat, (j : Int) ≠ a → h'.getD j 0 = h.getD j 0

theorem Apart.next {w wx w' : World} {b cb wb q : Nat} {box : Array Value} {zs : List Int} {k : Nat} {c lk : Int} (hlk : zs.getD k 0 = lk) (hq : q ≠ b ∧ q ≠ cb ∧ q ≠ wb ∧ w.heap.size < b ∧ w.heap.size < cb ∧ w.heap.size < wb ∧ w.heap.size < q)
    (hM : MemAt w' b cb wb (sixteen ((setTo zs k).set k lk) c)) (hQ : Blk wx q (ints .u64 (setTo zs k)) 42) (hX : Blk wx w.heap.size box 41) (hK : Keeps [] w wx) (hK' : Keeps [b, cb] wx w') :
    Apart w (w'.setCell ⟨q, k, none⟩ (.int .u64 lk)) b cb wb q box (setTo zs (k + 1)) := by
  subst hlk
  obtain ⟨h1, h2, h3, h4, h5, h6, h7⟩ := hq
  have e : (w'.setCell ⟨q, k, none⟩ (.int .u64 (zs.getD k 0))).heap.size = w'.heap.size := by simp
  have hK2 : Keeps [q] w' (w'.setCell ⟨q, k, none⟩ (.int .u64 (zs.getD k 0))) := (Keeps.refl _ _).set (by simp) _
  refine ⟨c, setTo_length _ _, hM.keeps hK2 (by simp; omega) (by simp; omega) (by simp; omega), ?_, (hX.keeps hK' (by simp; omega)).keeps hK2 (by simp; omega), (hK.drop hK' (by intro x hx; simp at hx; omega)).drop hK2 (by intro x hx; simp at hx; omega)⟩
  have := (hQ.keeps hK' (by simp; omega)).set k (.int .u64 (zs.getD k 0))
  rw [ints_set] at this
  exact this

set_option maxRecDepth 100000 in
set_option maxHeartbeats 4000000 in
theorem memApart_main (a0 : Option Addr) (len cap : Nat) (zs : List Int) (do_ at_ n wd addr old v : Int) (w : World) (w0 : RowIn' .u64 w a0 len cap zs) (hA : 0 ≤ addr) :
    Calls Try.prog 5 #[.slice a0 len cap, .agg #[.int .i64 do_, .int .i64 at_, .int .i64 n, .int .i64 wd, .int .u64 addr, .int .u64 old, .int .u64 v]] w fun e w' =>
      e = .returned (.bool true) ∧ Below w.heap.size w w' := by
  have hlen := w0.len_le
  have HW := hid w0
  clear w0
  go_enter Try.func5, Try.ntmps5
  go_wp2_with fail
  refine (six_full _).mono ?_
  rintro e w1 ⟨b, cb, wb, rfl, hM, hK, hb, hcb, hwb⟩
  have hbox := (Blk.fresh w #[.int .i64 do_, .int .i64 at_, .int .i64 n, .int .i64 wd, .int .u64 addr, .int .u64 old, .int .u64 v] 41).keeps hK (by simp)
  have hKw := ((Keeps.refl [] w).alloc (.cells #[.int .i64 do_, .int .i64 at_, .int .i64 n, .int .i64 wd, .int .u64 addr, .int .u64 old, .int .u64 v] 41)).trans hK
  generalize hB : (#[.int .i64 do_, .int .i64 at_, .int .i64 n, .int .i64 wd, .int .u64 addr, .int .u64 old, .int .u64 v] : Array Value) = box at hbox hKw
  have HB := hid hB
  clear hB
  simp only [World.size_alloc] at hb hcb hwb
  have hl := hM.lt
  go_upto_block 0 with fail
  have hq : Blk (w1.alloc (.cells (ints .u64 (setTo zs 0)) 42)) w1.heap.size (ints .u64 (setTo zs 0)) 42 := Blk.fresh _ _ _
  have hst : Apart w (w1.alloc (.cells (ints .u64 (setTo zs 0)) 42)) b cb wb w1.heap.size box (setTo zs 0) :=
    ⟨0, rfl, (full_six hM zs).alloc _, hq, hbox.alloc _, hKw.alloc _⟩
  have HST := hid hst
  clear hst hq hbox
  go_cut [7] (fun _ wx => ∃ h, Apart w wx b cb wb w1.heap.size box h)
  case first =>
    go_wp2_with fail
    go_loopw [7] (fun i wr => ∃ k : Nat, k ≤ 16 ∧ k ≤ len ∧ i = .int .i64 k ∧ Apart w wr b cb wb w1.heap.size box (setTo zs k)) (fun i _ => (16 - (intOf i).toNat))
    case atStart => exact ⟨0, by omega, by omega, rfl, HST.out⟩
    case round =>
      obtain ⟨k, hk, hk2, rfl, hR⟩ := hrel
      by_cases hlt : k < 16 ∧ k < len
      · obtain ⟨hl1, hl2⟩ := hlt
        obtain ⟨xb, xo, rfl, hx, hz, hc, hw⟩ := HW.out.elems (by omega)
        obtain ⟨c, hlen16, hMR, hQ, hX, hKR⟩ := hR
        have hck := (hKR.cell (p := ⟨xb, xo + k, none⟩) hx (by simp)).trans (hc k (by omega))
        clear hc hw
        generalize hlk : zs.getD k 0 = lk at *
        have HL := hid hlk
        clear hlk
        go_wp2_with fail
        refine (six_store b cb wb _ c k lk _ hMR (by omega) (by omega)).mono ?_
        rintro e w3 ⟨rfl, hM3, hK3⟩
        have hck3 := (hK3.cell (p := ⟨xb, xo + k, none⟩) (lt_of_cell hck) (by simp; omega)).trans hck
        have hQ3 := hQ.keeps hK3 (by simp; omega)
        have cq := hQ3.cell (ints_get (i := k) (by rw [setTo_length]; omega))
        have fq := hQ3.frozen k
        go_wp2_with fail
        go_roundw
        case rel => exact ⟨k + 1, by omega, by omega, by go_num, Apart.next HL.out (by omega) hM3 hQ hX hKR hK3⟩
        case measure => simp [intOf]; omega
      · by_cases hl1 : k < 16
        · have hl2 : ¬ k < len := by omega
          go_wp2_with fail
          go_meet
          case rel => exact ⟨_, hR⟩
        · go_wp2_with fail
          go_meet
          case rel => exact ⟨_, hR⟩
  case rest =>
    obtain ⟨h, c, hl16, hMR, hQ, hX, hKR⟩ := hcut
    have c0 := hX.cell (i := 0) (v := .int .i64 do_) (by rw [← HB.out]; rfl)
    have c4 := hX.cell (i := 4) (v := .int .u64 addr) (by rw [← HB.out]; rfl)
    have c5 := hX.cell (i := 5) (v := .int .u64 old) (by rw [← HB.out]; rfl)
    have c6 := hX.cell (i := 6) (v := .int .u64 v) (by rw [← HB.out]; rfl)
    go_wp2_with fail
    refine (within_any do_ 5 _ (by omega) (by omega)).mono ?_
    rintro e w2 ⟨rfl, rfl⟩
    have hd : do_ % 5 = 0 ∨ do_ % 5 = 1 ∨ do_ % 5 = 2 ∨ do_ % 5 = 3 ∨ do_ % 5 = 4 := by omega
    generalize do_ % 5 = d at *
    have ha0 : 0 ≤ addr % 16 := by omega
    have ha1 : addr % 16 < 16 := by omega
    have HH := hid hl16
    clear hl16
    go_upto_block 2 with fail
    generalize addr % 16 = a at *
    go_cut [9, 10] (fun g er wx => g = .int .u64 (h.getD a.toNat 0) ∧ er = .nilIface ∧ Apart2 w wx b cb wb w1.heap.size h a)
    case first =>
      rcases hd with rfl | rfl | rfl | rfl | rfl
      · go_wp2_with fail
        refine (six_load b cb wb h c a _ hMR ha0 ha1).mono ?_
        rintro e w3 ⟨rfl, hM3, hK3⟩
        go_wp2_with fail
        go_meet
        case rel => exact ⟨rfl, rfl, _, h, hM3, hQ.keeps hK3 (by simp; omega), hKR.drop hK3 (by intro x hx; simp at hx; omega), fun _ _ => rfl⟩
      · have cq := hQ.cell (ints_get (i := a.toNat) (by have := HH.out; omega))
        go_wp2_with fail
        go_region_with (go_at_call 7; refine (six_store b cb wb h c a v _ hMR.drew ha0 ha1).mono ?_; rintro e w3 ⟨rfl, hM3, hK3⟩; have cq3 := (hQ.drew.keeps hK3 (by simp; omega)).cell (ints_get (i := a.toNat) (by have := HH.out; omega)))
        all_goals go_wp2_with fail
        all_goals go_meet
        all_goals exact ⟨rfl, rfl, _, _, hM3, hQ.drew.keeps hK3 (by simp; omega), hKR.drew.drop hK3 (by intro x hx; simp at hx; omega), fun j hj => getD_set_ne _ _ _ _ (by omega)⟩
      · go_wp2_with fail
        refine (six_swap b cb wb h c a v _ hMR ha0 ha1).mono ?_
        rintro e w3 ⟨rfl, hM3, hK3⟩
        go_wp2_with fail
        go_meet
        case rel => exact ⟨rfl, rfl, _, _, hM3, hQ.keeps hK3 (by simp; omega), hKR.drop hK3 (by intro x hx; simp at hx; omega), fun j hj => getD_set_ne _ _ _ _ (by omega)⟩
      · go_wp2_with fail
        refine (six_add b cb wb h c a v _ hMR ha0 ha1).mono ?_
        rintro e w3 ⟨rfl, hM3, hK3⟩
        go_wp2_with fail
        go_meet
        case rel => exact ⟨rfl, rfl, _, _, hM3, hQ.keeps hK3 (by simp; omega), hKR.drop hK3 (by intro x hx; simp at hx; omega), fun j hj => getD_set_ne _ _ _ _ (by omega)⟩
      · go_wp2_with fail
        refine (six_cas b cb wb h c a old v _ hMR ha0 ha1).mono ?_
        rintro e w3 ⟨rfl, hM3, hK3⟩
        go_wp2_with fail
        go_meet
        case rel => exact ⟨rfl, rfl, _, _, hM3, hQ.keeps hK3 (by simp; omega), hKR.drop hK3 (by intro x hx; simp at hx; omega), fun j hj => by split; exact getD_set_ne _ _ _ _ (by omega); rfl⟩
    case rest =>
      obtain ⟨rfl, rfl, hcut⟩ := hcut
      have HC := hid hcut
      obtain ⟨c2, h2, hM2, hQ2, hK2, hH2⟩ := hcut
      have cq := hQ2.cell (ints_get (i := a.toNat) (by have := HH.out; omega))
      clear hM2 hQ2 hK2 hH2
      generalize h.getD a.toNat 0 = x at *
      go_wp2_with fail
      go_loopw [11] (fun i wr => ∃ k : Nat, k ≤ 16 ∧ i = .int .u64 k ∧ Apart2 w wr b cb wb w1.heap.size h a) (fun i _ => (16 - (intOf i).toNat))
      case atStart => exact ⟨0, by omega, rfl, HC.out⟩
      case round =>
        obtain ⟨k, hk, rfl, c3, h3, hM3, hQ3, hK3, hH3⟩ := hrel
        by_cases hlt : k < 16
        · have cq := hQ3.cell (ints_get (i := k) (by have := HH.out; omega))
          have HI := hid hH3
          clear hH3
          by_cases hka : (k : Int) = a
          · have b1 : ((k : Int) != a) = false := by simp [hka]
            have HKA := hid hka
            clear hka
            go_wp2_with fail
            refine (six_load b cb wb h3 c3 k _ hM3 (by omega) (by omega)).mono ?_
            rintro e w4 ⟨rfl, hM4, hK4⟩
            go_wp2_with fail
            go_roundw
            case rel => exact ⟨k + 1, by omega, by go_num, _, h3, hM4, hQ3.keeps hK4 (by simp; omega), hK3.drop hK4 (by intro x hx; simp at hx; omega), HI.out⟩
            case measure => simp [intOf]; omega
          · have b1 : ((k : Int) != a) = true := by simp [hka]
            have he := HI.out k hka
            go_wp2_with fail
            refine (six_load b cb wb h3 c3 k _ hM3 (by omega) (by omega)).mono ?_
            rintro e w4 ⟨rfl, hM4, hK4⟩
            rw [Int.toNat_natCast, he]
            have cq4 := (hQ3.keeps hK4 (by simp; omega)).cell (ints_get (i := k) (by have := HH.out; omega))
            have hQ4 := hQ3.keeps hK4 (by simp; omega)
            have hK5 := hK3.drop hK4 (by intro x hx; simp at hx; omega)
            clear he hQ3 hK3 cq hM3
            generalize h.getD k 0 = y at *
            go_wp2_with fail
            go_roundw
            case rel => exact ⟨k + 1, by omega, by go_num, _, h3, hM4, hQ4, hK5, HI.out⟩
            case measure => simp [intOf]; omega
        · obtain rfl : k = 16 := by omega
          go_wp2_with fail
          refine (awake_any _).mono ?_
          rintro e w4 ⟨rfl, hK4⟩
          go_wp2_with fail
          go_ret
          exact ⟨rfl, (hK3.trans hK4).below (Nat.le_refl _) (by simp)⟩

theorem memApart_walk (a0 : Option Addr) (len cap : Nat) (zs : List Int) (do_ at_ n wd addr old v : Int) (w : World) (w0 : RowIn' .u64 w a0 len cap zs) (_w1 : (Lit.int .i64 do_).wf = true) (_w2 : (Lit.int .i64 at_).wf = true)
    (_w3 : (Lit.int .i64 n).wf = true) (_w4 : (Lit.int .i64 wd).wf = true) (w5 : (Lit.int .u64 addr).wf = true) (_w6 : (Lit.int .u64 old).wf = true) (_w7 : (Lit.int .u64 v).wf = true) :
    Calls Try.prog 5 #[.slice a0 len cap, .agg #[.int .i64 do_, .int .i64 at_, .int .i64 n, .int .i64 wd, .int .u64 addr, .int .u64 old, .int .u64 v]] w fun e w' =>
      e = .returned (.bool true) ∧ Below w.heap.size w w' :=
  memApart_main a0 len cap zs do_ at_ n wd addr old v w w0 (bounds_u64 w5).1
end Go.Proofs.Ytmciclhifcjoiaa
