/-
  The document's table: Status, Look, Reap, New, Born, All; distaffkeep.Threads. (Printed by gen_rt3.py.)
-/
import Derived.Test.YtghgfopcnaoaiaaDoorRt2
namespace Go.Proofs.YtghgfopcnaoaiaaDoor
open Go.RowKit

def RReapPost (w : World) (b rb : Nat) (res : ReapR × List TRow) (e : Ending) (w' : World) : Prop :=
  ∃ v, e = .returned (.tuple #[.int .u64 res.1.value, .int .u64 res.1.home, .bool res.1.free, v]) ∧ DocAt w' v (errOf res.1.kind) ∧ RTabAt w' b rb res.2 ∧ Keeps [rb] w w'

theorem rreap_fail {w w' : World} {b rb : Nat} {l : List TRow} {u : Value} {k : Int} (hT : RTabAt w b rb l) (h1 : 1 ≤ k) (h2 : k ≤ 10) (hF : FailAt w' u [(tabS, 0)] k) (hK : Keeps [] w w') :
    RReapPost w b rb (⟨0, 0, false, k⟩, l) (.returned (.tuple #[.int .u64 0, .int .u64 0, .bool false, u])) w' :=
  ⟨u, rfl, rdoc (w := w) h1 h2 hF, hT.keeps hK (by simp) (by simp), hK.mono (by simp)⟩

section
variable (b rb : Nat) (l : List TRow) (id : Int) (w : World) (hT : RTabAt w b rb l) (hg : Tg l)
include hT hg

set_option maxHeartbeats 1000000 in
theorem rstatus_any : Calls Tryd.prog 29 #[.pointer (some ⟨b, 0, none⟩), .int .u64 id] w fun e w' => e = .returned (.int .i64 (statusF l id)) ∧ w = w' := by
  cases hi : idx l id with
  | none =>
    have HI := hid hi
    have HF := hid (show statusF l id = 0 by unfold statusF; rw [hi])
    rw [HF.out]
    clear hi HF
    go_enter Tryd.func29, Tryd.ntmps29
    go_wp2_with fail
    refine (find_any b rb l id _ hT hg).mono ?_
    rintro e w' ⟨rfl, rfl⟩
    rw [HI.out]
    unfold rrowPtr
    go_wp2_with fail
    go_ret
    exact ⟨rfl, rfl⟩
  | some i =>
    obtain ⟨r, hr, htk, hid2⟩ := idx_some hi
    have c2 := hT.cell (j := 7) hr (by omega) rfl
    have c4 := hT.cell (j := 1) hr (by omega) rfl
    have c7 := hT.cell (j := 4) hr (by omega) rfl
    have c8 := hT.cell (j := 5) hr (by omega) rfl
    have HO := rowOf_some hr
    have HI := hid hi
    have key : ∀ q, statusF l id = q → Calls Tryd.prog 29 #[.pointer (some ⟨b, 0, none⟩), .int .u64 id] w (fun e w' => e = .returned (.int .i64 q) ∧ w = w') → Calls Tryd.prog 29 #[.pointer (some ⟨b, 0, none⟩), .int .u64 id] w (fun e w' => e = .returned (.int .i64 (statusF l id)) ∧ w = w') := fun q h k => by rw [h]; exact k
    cases hq : r.reaped with
    | true =>
      refine key 0 (by unfold statusF; rw [hi]; simp [HO, hq]) ?_
      rw [hq] at c2
      clear hi hr HO hid2 htk key hq
      go_enter Tryd.func29, Tryd.ntmps29
      go_wp2_with fail
      refine (find_any b rb l id _ hT hg).mono ?_
      rintro e w' ⟨rfl, rfl⟩
      rw [HI.out]
      unfold rrowPtr
      go_wp2_with fail
      go_ret
      exact ⟨rfl, rfl⟩
    | false =>
      rw [hq] at c2
      cases hl : r.loose with
      | true =>
        refine key 2 (by unfold statusF; rw [hi]; simp [HO, hq, hl]) ?_
        rw [hl] at c8
        clear hi hr HO hid2 htk key hq hl
        go_enter Tryd.func29, Tryd.ntmps29
        go_wp2_with fail
        refine (find_any b rb l id _ hT hg).mono ?_
        rintro e w' ⟨rfl, rfl⟩
        rw [HI.out]
        unfold rrowPtr
        go_wp2_with fail
        go_ret
        exact ⟨rfl, rfl⟩
      | false =>
        rw [hl] at c8
        by_cases hj : r.joiner = 0
        · rw [hj] at c7
          by_cases hs : r.state = 4
          · refine key 3 (by unfold statusF; rw [hi]; simp [HO, hq, hl, hj, hs]) ?_
            rw [hs] at c4
            clear hi hr HO hid2 htk key hq hl hj hs
            go_enter Tryd.func29, Tryd.ntmps29
            go_wp2_with fail
            refine (find_any b rb l id _ hT hg).mono ?_
            rintro e w' ⟨rfl, rfl⟩
            rw [HI.out]
            unfold rrowPtr
            go_wp2_with fail
            go_ret
            exact ⟨rfl, rfl⟩
          · have hs4 : (r.state == 4) = false := by simpa using hs
            refine key 1 (by unfold statusF; rw [hi]; simp [HO, hq, hl, hj, hs]) ?_
            clear hi hr HO hid2 htk key hq hl hj hs
            go_enter Tryd.func29, Tryd.ntmps29
            go_wp2_with fail
            refine (find_any b rb l id _ hT hg).mono ?_
            rintro e w' ⟨rfl, rfl⟩
            rw [HI.out]
            unfold rrowPtr
            go_wp2_with fail
            go_ret
            exact ⟨rfl, rfl⟩
        · have hj0 : (r.joiner != 0) = true := by simpa using hj
          refine key 4 (by unfold statusF; rw [hi]; simp [HO, hq, hl, hj]) ?_
          clear hi hr HO hid2 htk key hq hl hj
          go_enter Tryd.func29, Tryd.ntmps29
          go_wp2_with fail
          refine (find_any b rb l id _ hT hg).mono ?_
          rintro e w' ⟨rfl, rfl⟩
          rw [HI.out]
          unfold rrowPtr
          go_wp2_with fail
          go_ret
          exact ⟨rfl, rfl⟩


set_option maxHeartbeats 1000000 in
theorem rlook_any : Calls Tryd.prog 30 #[.pointer (some ⟨b, 0, none⟩), .int .u64 id] w fun e w' => e = .returned (lookV l id) ∧ Keeps [] w w' := by
  have hTa := hT.keeps ((Keeps.refl [] w).alloc (.cells #[.int .u64 0, .int .i64 0, .int .u64 0, .int .u64 0, .int .u64 0, .bool false, .bool false] 48)) (by simp) (by simp)
  cases hi : idx l id with
  | none =>
    have HI := hid hi
    have HF := hid (show lookV l id = .tuple #[.agg #[.int .u64 0, .int .i64 0, .int .u64 0, .int .u64 0, .int .u64 0, .bool false, .bool false], .bool false] by unfold lookV; rw [hi]; rfl)
    rw [HF.out]
    clear hi HF
    go_enter Tryd.func30, Tryd.ntmps30
    go_wp2_with fail
    refine (find_any b rb l id _ hTa hg).mono ?_
    rintro e w' ⟨rfl, rfl⟩
    rw [HI.out]
    unfold rrowPtr
    go_wp2_with fail
    exact bodyPost_ret (v := .tuple #[.agg #[.int .u64 0, .int .i64 0, .int .u64 0, .int .u64 0, .int .u64 0, .bool false, .bool false], .bool false]) (by simp [results, Tryd.results30, go_sem]) rfl ⟨rfl, (Keeps.refl _ _).alloc _⟩
  | some i =>
    obtain ⟨r, hr, htk, hid2⟩ := idx_some hi
    have c3 : World.cell? _ ⟨rb, i * 9, none⟩ = some (.int .u64 r.id) := hTa.cell (j := 0) hr (by omega) rfl
    have c4 := hTa.cell (j := 1) hr (by omega) rfl
    have c5 := hTa.cell (j := 3) hr (by omega) rfl
    have c6 := hTa.cell (j := 2) hr (by omega) rfl
    have c7 := hTa.cell (j := 4) hr (by omega) rfl
    have c8 := hTa.cell (j := 5) hr (by omega) rfl
    have c9 := hTa.cell (j := 6) hr (by omega) rfl
    have HO := rowOf_some hr
    have HI := hid hi
    have HF := hid (show lookV l id = .tuple #[.agg #[.int .u64 r.id, .int .i64 r.state, .int .u64 r.home, .int .u64 r.value, .int .u64 r.joiner, .bool r.loose, .bool r.stepping], .bool true] by unfold lookV; rw [hi]; simp only [HO]; rfl)
    rw [HF.out]
    clear hi HF hr HO hid2 htk
    go_enter Tryd.func30, Tryd.ntmps30
    go_wp2_with fail
    refine (find_any b rb l id _ hTa hg).mono ?_
    rintro e w' ⟨rfl, rfl⟩
    rw [HI.out]
    unfold rrowPtr
    go_wp2_with fail
    exact bodyPost_ret (v := .tuple #[.agg #[.int .u64 r.id, .int .i64 r.state, .int .u64 r.home, .int .u64 r.value, .int .u64 r.joiner, .bool r.loose, .bool r.stepping], .bool true]) (by simp [results, Tryd.results30, go_sem]) rfl ⟨rfl, (Keeps.refl _ _).alloc _⟩

set_option maxHeartbeats 1000000 in
theorem rreap_any : Calls Tryd.prog 42 #[.pointer (some ⟨b, 0, none⟩), .int .u64 id] w (RReapPost w b rb (reapF l id)) := by
  cases hi : idx l id with
  | none =>
    have HI := hid hi
    have HF := hid (show reapF l id = (⟨0, 0, false, 7⟩, l) by unfold reapF; rw [hi])
    rw [HF.out]
    clear hi HF
    go_enter Tryd.func42, Tryd.ntmps42
    go_wp2_with fail
    refine (find_any b rb l id _ hT hg).mono ?_
    rintro e w' ⟨rfl, rfl⟩
    rw [HI.out]
    unfold rrowPtr
    go_wp2_with fail
    refine (rno_any 7 _).mono ?_
    rintro e w' ⟨u, rfl, hF, hK⟩
    go_wp2_with fail
    exact bodyPost_ret (v := .tuple #[.int .u64 0, .int .u64 0, .bool false, u]) (by simp [results, Tryd.results42, go_sem]) rfl (rreap_fail hT (by omega) (by omega) hF hK)
  | some i =>
    obtain ⟨r, hr, htk, hid2⟩ := idx_some hi
    have c2 := hT.cell (j := 7) hr (by omega) rfl
    have c4 := hT.cell (j := 1) hr (by omega) rfl
    have c5 := hT.cell (j := 3) hr (by omega) rfl
    have c6 := hT.cell (j := 2) hr (by omega) rfl
    have c8 := hT.cell (j := 5) hr (by omega) rfl
    have c9 := hT.cell (j := 6) hr (by omega) rfl
    have f1 := fun j => hT.2.1.frozen j
    have HR := hid hr
    have HO := rowOf_some hr
    have HI := hid hi
    have h1 := hT.start HR.out

    by_cases hs : r.state = 4
    · rw [hs] at c4
      cases hl : r.loose with
      | true =>
        rw [hl] at c8
        have HF := hid (show reapF l id = (⟨0, 0, false, 8⟩, l) by unfold reapF; rw [hi]; simp [HO, hl])
        rw [HF.out]
        clear HF
        clear hi hr HO hid2 htk
        clear hs hl
        go_enter Tryd.func42, Tryd.ntmps42
        go_wp2_with fail
        refine (find_any b rb l id _ hT hg).mono ?_
        rintro e w' ⟨rfl, rfl⟩
        rw [HI.out]
        unfold rrowPtr
        go_wp2_with fail
        refine (rno_any 8 _).mono ?_
        rintro e w' ⟨u, rfl, hF, hK⟩
        go_wp2_with fail
        exact bodyPost_ret (v := .tuple #[.int .u64 0, .int .u64 0, .bool false, u]) (by simp [results, Tryd.results42, go_sem]) rfl (rreap_fail hT (by omega) (by omega) hF hK)
      | false =>
        rw [hl] at c8
        cases hq : r.reaped with
        | true =>
          rw [hq] at c2
          have HF := hid (show reapF l id = (⟨0, 0, false, 8⟩, l) by unfold reapF; rw [hi]; simp [HO, hq])
          rw [HF.out]
          clear HF
          clear hi hr HO hid2 htk
          clear hs hl hq
          go_enter Tryd.func42, Tryd.ntmps42
          go_wp2_with fail
          refine (find_any b rb l id _ hT hg).mono ?_
          rintro e w' ⟨rfl, rfl⟩
          rw [HI.out]
          unfold rrowPtr
          go_wp2_with fail
          refine (rno_any 8 _).mono ?_
          rintro e w' ⟨u, rfl, hF, hK⟩
          go_wp2_with fail
          exact bodyPost_ret (v := .tuple #[.int .u64 0, .int .u64 0, .bool false, u]) (by simp [results, Tryd.results42, go_sem]) rfl (rreap_fail hT (by omega) (by omega) hF hK)
        | false =>
          rw [hq] at c2
          cases hp : r.stepping with
          | true =>
            rw [hp] at c9
            have HF := hid (show reapF l id = (⟨r.value, r.home, false, 0⟩, l.set i { r with reaped := true }) by unfold reapF; rw [hi]; simp [HO, hs, hl, hq, hp])
            rw [HF.out]
            clear HF
            clear hi hr HO hid2 htk
            clear hs hl hq hp
            go_enter Tryd.func42, Tryd.ntmps42
            go_wp2_with fail
            refine (find_any b rb l id _ hT hg).mono ?_
            rintro e w' ⟨rfl, rfl⟩
            rw [HI.out]
            unfold rrowPtr
            go_wp2_with fail
            go_quiet (fail)
            go_wp2_with fail
            exact bodyPost_ret (v := .tuple #[.int .u64 r.value, .int .u64 r.home, .bool false, .pointer none]) (by simp [results, Tryd.results42, go_sem]) rfl (⟨_, rfl, rfl, (RPutAt.put (w := w.drewN nq) ⟨h1.1, h1.2⟩ 7 { r with reaped := true } (.bool true) (by omega) rfl).2, ((Keeps.refl _ _).drewN _).set (by simp) _⟩)
          | false =>
            rw [hp] at c9
            have HF := hid (show reapF l id = (⟨r.value, r.home, true, 0⟩, l.set i r.free) by unfold reapF; rw [hi]; simp [HO, hs, hl, hq, hp])
            rw [HF.out]
            clear HF
            clear hi hr HO hid2 htk
            clear hs hl hq hp
            go_enter Tryd.func42, Tryd.ntmps42
            go_wp2_with fail
            refine (find_any b rb l id _ hT hg).mono ?_
            rintro e w' ⟨rfl, rfl⟩
            rw [HI.out]
            unfold rrowPtr
            go_wp2_with fail
            go_quiet (fail)
            go_wp2_with fail
            have h2 : RPutAt (w.drewN nq) b rb l i r := ⟨h1.1, h1.2⟩
            refine (rforget_any b rb _ i r _ h2.2 (List.getElem?_set_self h2.1)).mono ?_
            rintro e w' ⟨rfl, hT2, hK2⟩
            go_wp2_with fail
            rw [List.set_set] at hT2
            exact bodyPost_ret (v := .tuple #[.int .u64 r.value, .int .u64 r.home, .bool true, .pointer none]) (by simp [results, Tryd.results42, go_sem]) rfl (⟨_, rfl, rfl, hT2, ((Keeps.refl _ _).drewN _).trans hK2⟩)
    · have hs4 : (r.state != 4) = true := by simpa using hs
      have HF := hid (show reapF l id = (⟨0, 0, false, 8⟩, l) by unfold reapF; rw [hi]; simp [HO, hs])
      rw [HF.out]
      clear HF
      clear hi hr HO hid2 htk
      clear hs
      go_enter Tryd.func42, Tryd.ntmps42
      go_wp2_with fail
      refine (find_any b rb l id _ hT hg).mono ?_
      rintro e w' ⟨rfl, rfl⟩
      rw [HI.out]
      unfold rrowPtr
      go_wp2_with fail
      refine (rno_any 8 _).mono ?_
      rintro e w' ⟨u, rfl, hF, hK⟩
      go_wp2_with fail
      exact bodyPost_ret (v := .tuple #[.int .u64 0, .int .u64 0, .bool false, u]) (by simp [results, Tryd.results42, go_sem]) rfl (rreap_fail hT (by omega) (by omega) hF hK)


end

/-! ### New -/
theorem rzero_rows (n : Nat) : madeCells zrow.rcells.toArray (n * 9) = flatA TRow.rcells (tNew n) := by
  apply Array.ext_getElem?
  intro k
  by_cases hk : k < n * 9
  · have e : k = k / 9 * 9 + k % 9 := by omega
    have h1 : (flatA TRow.rcells (tNew n))[k / 9 * 9 + k % 9]? = zrow.rcells[k % 9]? := by
      have := flat_get TRow.rcells_length (tNew n) (k / 9) (k % 9) (by omega)
      simp only [flatA, List.getElem?_toArray, this]
      rw [tNew, List.getElem?_replicate, if_pos (by omega)]
      rfl
    rw [← e] at h1
    rw [h1]
    have hz : zrow.rcells.toArray.size = 9 := rfl
    unfold madeCells
    rw [Array.getElem?_map, Array.getElem?_range, if_pos hk, hz]
    have hm : k % 9 < zrow.rcells.length := by show k % 9 < 9; omega
    show some (zrow.rcells.toArray[k % 9]!) = _
    rw [List.getElem!_toArray, List.getElem!_eq_getElem?_getD, List.getElem?_eq_getElem hm]
    rfl
  · rw [Array.getElem?_eq_none (by rw [size_madeCells]; omega), Array.getElem?_eq_none]
    have := flat_length TRow.rcells_length (tNew n)
    simp only [flatA, List.size_toArray, this]
    simp only [tNew, List.length_replicate]
    omega

def RTNewPost (w : World) (n : Nat) (e : Ending) (w' : World) : Prop := ∃ b rb, e = .returned (.tuple #[.pointer (some ⟨b, 0, none⟩), .pointer none]) ∧ RTabAt w' b rb (tNew n) ∧ Keeps [] w w' ∧ w.heap.size ≤ b ∧ w.heap.size ≤ rb

set_option maxHeartbeats 1000000 in
theorem rtnew_ok (n : Nat) (w : World) (h1 : 1 ≤ n) (hn : n ≤ 64) : Calls Tryd.prog 24 #[.int .i64 (n : Int)] w (RTNewPost w n) := by
  have mk1 : ∀ w : World, (Instr.makeSlice 81 (.int .i64 (n : Int)) (.int .i64 (n : Int))).run Tryd.prog w = .ok (.slice (some ⟨w.heap.size, 0, none⟩) n n) (w.alloc (.cells (flatA TRow.rcells (tNew n)) 93)) := by
    intro w
    have h := run_make (P := Tryd.prog) w 81 93 Tryd.t93 (.agg zrow.rcells.toArray) Tryd.underlying81 (by kernel_rfl) (by kernel_rfl) .i64 .i64 n n (by omega) (Int.le_refl _) (by show ((64 : Nat) : Int) * n ≤ _; omega) (by omega)
    rw [Int.toNat_natCast] at h
    exact h.trans (by rw [← rzero_rows]; rfl)
  have d1 : decide ((n : Int) < 1) = false := by simp; omega
  have d2 : decide ((64 : Int) < (n : Int)) = false := by simp; omega
  go_enter Tryd.func24, Tryd.ntmps24
  go_wp2_with fail
  go_ret2
  refine ⟨w.heap.size + 1, w.heap.size, rfl, ⟨?_, (Blk.fresh_at rfl _ _).alloc _, by omega, by simp [tNew]; omega⟩, ((Keeps.refl _ _).alloc _).alloc _, by omega, by omega⟩
  have : (tNew n).length = n := by simp [tNew]
  rw [this]
  exact Blk.fresh_at (by simp) _ _

/-! ### Born -/
def RBornPost (w : World) (b rb : Nat) (id : Int) (l' : List TRow) (e : Ending) (w' : World) : Prop := e = .returned (.tuple #[.int .u64 id, .pointer none]) ∧ RTabAt w' b rb l' ∧ Keeps [rb] w w'

theorem Tg.zero_iff {l : List TRow} (h : Tg l) {i : Nat} {r : TRow} (hr : l[i]? = some r) : (r.id == 0) = !r.taken ∧ (r.id != 0) = r.taken := by
  have hb := h.rows i r hr
  cases ht : r.taken with
  | true =>
    have := (hb.1 ht).1
    simp [this]
  | false =>
    have := (hb.2.1 ht).1
    simp [this]

set_option maxHeartbeats 4000000 in
theorem rborn_ok (b rb : Nat) (l : List TRow) (i : Nat) (r : TRow) (home : Int) (w : World) (hT : RTabAt w b rb l) (hg : Tg l) (hr : l[i]? = some r) (hf : r.taken = false) (hall : ∀ (j : Nat) (q : TRow), j < i → l[j]? = some q → q.taken = true) (ht0 : 0 ≤ r.times) (ht1 : r.times ≤ 100) :
    Calls Tryd.prog 43 #[.pointer (some ⟨b, 0, none⟩), .int .u64 home] w (RBornPost w b rb (bornRow r i home).id (l.set i (bornRow r i home))) := by
  have c0 := hT.1.cell (i := 0) rfl
  have hlen := hT.2.2.2
  have hil : i < l.length := (List.getElem?_eq_some_iff.1 hr).1
  have hB := born_form r i home ht0 ht1 (by omega)
  have hrp : r.reaped = false := ((hg.rows i r hr).2.1 hf).2
  have HB := hid hB
  have HA := hid hall
  have HR := hid hr
  have HF := hid hf
  have HG := hid hg
  have HRP := hid hrp
  clear hall hr hf hg hB hrp
  have f1 := fun j => hT.2.1.frozen j
  have HT := hid hT
  generalize hL : l.length = n at *
  have HL := hid hL
  clear hL
  go_enter Tryd.func43, Tryd.ntmps43
  go_wp2_with fail
  go_loop [6] (fun s => ∃ k : Nat, k ≤ i ∧ s = .int .i64 k) (fun s => (n - (intOf s).toNat))
  case atStart => exact ⟨0, by omega, rfl⟩
  case round =>
    obtain ⟨k, hk, rfl⟩ := hrel
    by_cases hlt : k < i
    · obtain ⟨q, hq⟩ : ∃ q, l[k]? = some q := ⟨_, List.getElem?_eq_getElem (by have := HL.out; omega)⟩
      have ck : w.cell? ⟨rb, k * 9, none⟩ = some (.int .u64 q.id) := hT.cell (j := 0) hq (by omega) rfl
      have hz := (HG.out.zero_iff hq).1
      rw [HA.out k q hlt hq] at hz
      clear hq
      generalize q.id = qi at *
      have hkn : k < n := by omega
      have hz : (qi == 0) = false := hz
      go_wp2_with fail
      go_round
      case rel => exact ⟨k + 1, by omega, by go_num⟩
      case measure => simp [intOf]; omega
    · obtain rfl : k = i := by omega
      have k0 : w.cell? ⟨rb, k * 9, none⟩ = some (.int .u64 0) := by
        have h := hT.cell (j := 0) HR.out (by omega) (v := .int .u64 r.id) rfl
        rw [((HG.out.rows k r HR.out).2.1 HF.out).1] at h
        exact h
      have k1 := hT.cell (j := 1) HR.out (by omega) rfl
      have k2 := hT.cell (j := 2) HR.out (by omega) rfl
      have k3 := hT.cell (j := 3) HR.out (by omega) rfl
      have k4 := hT.cell (j := 4) HR.out (by omega) rfl
      have k5 := hT.cell (j := 5) HR.out (by omega) rfl
      have k6 := hT.cell (j := 6) HR.out (by omega) rfl
      have k8 := hT.cell (j := 8) HR.out (by omega) (v := .int .i64 r.times) rfl
      have hk64 : k < 64 := by omega
      generalize ht : r.times = t at *
      have HTT := hid ht
      clear ht
      go_wp2_with fail
      go_ret2
      have he : (k : Int) + 64 * (t + 1) = (bornRow r k home).id := by rw [HB.out.2]
      refine ⟨?_, ?_, ((((((((((Keeps.refl _ _).set (by simp) _).set (by simp) _).set (by simp) _).set (by simp) _).set (by simp) _).set (by simp) _).set (by simp) _).set (by simp) _))⟩
      · rw [← he]
        rfl
      · rw [he]
        have hq : t + 1 = (bornRow r k home).times := HB.out.1.symm
        rw [hq]
        have h0 := (HT.out.start HR.out).put 8 { r with times := (bornRow r k home).times } (.int .i64 (bornRow r k home).times) (by omega) rfl
        have h1 := h0.first { r with times := (bornRow r k home).times, id := (bornRow r k home).id } (.int .u64 (bornRow r k home).id) rfl
        have h2 := h1.put 1 { r with times := (bornRow r k home).times, id := (bornRow r k home).id, state := 1 } (.int .i64 1) (by omega) rfl
        have h3 := h2.put 2 { r with times := (bornRow r k home).times, id := (bornRow r k home).id, state := 1, home := home } (.int .u64 home) (by omega) rfl
        have h4 := h3.put 3 { r with times := (bornRow r k home).times, id := (bornRow r k home).id, state := 1, home := home, value := 0 } (.int .u64 0) (by omega) rfl
        have h5 := h4.put 4 { r with times := (bornRow r k home).times, id := (bornRow r k home).id, state := 1, home := home, value := 0, joiner := 0 } (.int .u64 0) (by omega) rfl
        have h6 := h5.put 5 { r with times := (bornRow r k home).times, id := (bornRow r k home).id, state := 1, home := home, value := 0, joiner := 0, loose := false } (.bool false) (by omega) rfl
        have h7 := h6.put 6 { r with times := (bornRow r k home).times, id := (bornRow r k home).id, state := 1, home := home, value := 0, joiner := 0, loose := false, stepping := false } (.bool false) (by omega) rfl
        exact (h7.turn (bornRow r k home) rfl).2

set_option maxHeartbeats 2000000 in
theorem rborn_full (b rb : Nat) (l : List TRow) (home : Int) (w : World) (hT : RTabAt w b rb l) (hg : Tg l) (hall : ∀ (j : Nat) (q : TRow), l[j]? = some q → q.taken = true) :
    Calls Tryd.prog 43 #[.pointer (some ⟨b, 0, none⟩), .int .u64 home] w fun e w' => ∃ u, e = .returned (.tuple #[.int .u64 0, u]) ∧ FailAt w' u [(tabS, 0)] 3 ∧ Keeps [] w w' := by
  have c0 := hT.1.cell (i := 0) rfl
  have hlen := hT.2.2.2
  have HA := hid hall
  have HG := hid hg
  clear hall hg
  generalize hL : l.length = n at *
  have HL := hid hL
  clear hL
  go_enter Tryd.func43, Tryd.ntmps43
  go_wp2_with fail
  go_loop [6] (fun s => ∃ k : Nat, k ≤ n ∧ s = .int .i64 k) (fun s => (n - (intOf s).toNat))
  case atStart => exact ⟨0, by omega, rfl⟩
  case round =>
    obtain ⟨k, hk, rfl⟩ := hrel
    by_cases hlt : k < n
    · obtain ⟨q, hq⟩ : ∃ q, l[k]? = some q := ⟨_, List.getElem?_eq_getElem (by have := HL.out; omega)⟩
      have ck : w.cell? ⟨rb, k * 9, none⟩ = some (.int .u64 q.id) := hT.cell (j := 0) hq (by omega) rfl
      have hz := (HG.out.zero_iff hq).1
      rw [HA.out k q hq] at hz
      clear hq
      generalize q.id = qi at *
      have hz : (qi == 0) = false := hz
      go_wp2_with fail
      go_round
      case rel => exact ⟨k + 1, by omega, by go_num⟩
      case measure => simp [intOf]; omega
    · obtain rfl : k = n := by omega
      go_wp2_with fail
      refine (rno_any 3 _).mono ?_
      rintro e w' ⟨u, rfl, hF, hK⟩
      go_wp2_with fail
      go_ret2
      exact ⟨u, rfl, hF, hK⟩

set_option maxRecDepth 100000 in
set_option maxHeartbeats 2000000 in
theorem rall_any (b rb : Nat) (l : List TRow) (w : World) (hT : RTabAt w b rb l) (hg : Tg l) :
    Calls Tryd.prog 28 #[.pointer (some ⟨b, 0, none⟩)] w (AllPost w l) := by
  obtain ⟨i0, hi, hz0, hz1, hz2⟩ := info_parts infoThread
  have hlen := hT.2.2.2
  have c0 := hT.1.cell (i := 0) rfl
  have HT := hid hT
  have HG := hid hg
  clear hg
  generalize hL : l.length = n at *
  have HL := hid hL
  clear hL
  go_enter Tryd.func28, Tryd.ntmps28
  go_wp2_with fail
  go_loopw [3, 4] (fun v s wr => ∃ k : Nat, k ≤ n ∧ s = .int .i64 k ∧ wr.ownsRow w.heap.size 48 7 v (threadsTo l k).length ((threadsTo l k).flatMap TRow.thread) ∧ Keeps [] w wr) (fun _ s _ => (n - (intOf s).toNat))
  case atStart => exact ⟨0, by omega, rfl, World.ownsRow_nil _ _ _ _, Keeps.refl _ _⟩
  case round =>
    obtain ⟨k, hk, rfl, hown, hKR⟩ := hrel
    have hTr := HT.out.keeps hKR (by simp) (by simp)
    have d0 := hTr.1.cell (i := 0) rfl
    rw [HL.out] at d0
    by_cases hlt : k < n
    · obtain ⟨r, hr⟩ : ∃ r, l[k]? = some r := ⟨_, List.getElem?_eq_getElem (by have := HL.out; omega)⟩
      have k0 : wr.cell? ⟨rb, k * 9, none⟩ = some (.int .u64 r.id) := hTr.cell (j := 0) hr (by omega) rfl
      have k1 := hTr.cell (j := 1) hr (by omega) rfl
      have k2 := hTr.cell (j := 2) hr (by omega) rfl
      have k3 := hTr.cell (j := 3) hr (by omega) rfl
      have k4 := hTr.cell (j := 4) hr (by omega) rfl
      have k5 := hTr.cell (j := 5) hr (by omega) rfl
      have k6 := hTr.cell (j := 6) hr (by omega) rfl
      have hz := (HG.out.zero_iff hr).2
      have HS := hid (threadsTo_succ hr)
      have hle := threadsTo_le l k
      have HO := hid hown
      have HR := hid hr
      clear hr hown
      cases ht : r.taken with
      | false =>
        rw [ht] at hz
        have HTK := hid ht
        clear ht
        go_wp2_with fail
        go_roundw
        case rel => exact ⟨k + 1, by omega, by go_num, by rw [HS.out, if_neg (by rw [HTK.out]; decide)]; exact HO.out, hKR⟩
        case measure => simp [intOf]; omega
      | true =>
        rw [ht] at hz
        have HTK := hid ht
        clear ht
        go_wp2_with (at_builtin; refine wpList_append_own _ rfl (.tmp 24) (.tmp 33) 32 rfl w.heap.size 48 i0 (.agg zrow.thread.toArray) 7 48 Tryd.underlying32 hi hz0 hz1 hz2 rfl (by decide) _ _ _ rfl (HO.out.alloc _) ⟨wr.heap.size, 0, none⟩ 1 1 r.thread rfl rfl ?c1 ?c2 ?c3 ?c4 ?c5 ?_)
        case c1 => intro j u hu; match j, hu with | 0, hu => simp [TRow.thread] at hu; subst hu; simp [Addr.add] | 1, hu => simp [TRow.thread] at hu; subst hu; simp [Addr.add] | 2, hu => simp [TRow.thread] at hu; subst hu; simp [Addr.add] | 3, hu => simp [TRow.thread] at hu; subst hu; simp [Addr.add] | 4, hu => simp [TRow.thread] at hu; subst hu; simp [Addr.add] | 5, hu => simp [TRow.thread] at hu; subst hu; simp [Addr.add] | 6, hu => simp [TRow.thread] at hu; subst hu; simp [Addr.add] | j + 7, hu => simp [TRow.thread] at hu
        case c2 => intro u hu; simp [TRow.thread] at hu; rcases hu with rfl | rfl | rfl | rfl | rfl | rfl | rfl <;> rfl
        case c3 => unfold maxLen; omega
        case c4 => omega
        case c5 => have := hKR.size; simp; omega
        intro v' w1 hown' hgrow _
        have hK1 : Keeps [] w w1 := grown_keeps hgrow (fun q hq => (HO.out.lt q hq).1) (hKR.alloc _)
        have hx : w1.ownsRow w.heap.size 48 7 v' (threadsTo l (k + 1)).length ((threadsTo l (k + 1)).flatMap TRow.thread) := by
          have e := HS.out
          rw [if_pos HTK.out] at e
          rw [e, List.length_append, List.flatMap_append]
          have e2 : List.flatMap TRow.thread [r] = r.thread := by simp
          rw [e2]
          exact hown'
        have HX := hid hx
        clear hx hown' hgrow
        go_wp2_with fail
        go_roundw
        case rel => exact ⟨k + 1, by omega, by go_num, HX.out, hK1⟩
        case measure => simp [intOf]; omega
    · obtain rfl : k = n := by omega
      go_wp2_with fail
      go_ret
      have e : threadsTo l k = threads l := by unfold threadsTo threads; rw [List.take_of_length_le (by rw [HL.out]; omega)]
      rw [e] at hown
      exact ⟨_, rfl, hown, hKR⟩

/-! ### Threads -/
def ThreadsAt (w : World) (a : Option Addr) (l : List TRow) : Prop := ∀ (i : Nat) (r : TRow), l[i]? = some r → ∃ tb, a = some ⟨tb, 0, none⟩ ∧ tb < w.heap.size ∧ w.cell? ⟨tb, i * 7, none⟩ = some (.int .u64 r.id) ∧ w.cell? ⟨tb, i * 7 + 1, none⟩ = some (.int .i64 r.state) ∧ w.cell? ⟨tb, i * 7 + 2, none⟩ = some (.int .u64 r.home) ∧
  w.cell? ⟨tb, i * 7 + 3, none⟩ = some (.int .u64 r.value) ∧ w.cell? ⟨tb, i * 7 + 4, none⟩ = some (.int .u64 r.joiner) ∧ w.cell? ⟨tb, i * 7 + 5, none⟩ = some (.bool r.loose) ∧ w.cell? ⟨tb, i * 7 + 6, none⟩ = some (.bool r.stepping)
theorem threads_of {w : World} {base : Nat} {a : Option Addr} {n cap : Nat} {l : List TRow} (h : w.ownsRow base 48 7 (.slice a n cap) n (l.flatMap TRow.thread)) (hn : n = l.length) : ThreadsAt w a l := by
  intro i r hr
  have hi : i < n := by rw [hn]; exact (List.getElem?_eq_some_iff.1 hr).1
  rcases h.2 with ⟨_, h0⟩ | ⟨tb, c, cur, hv, _, hg, _⟩
  · omega
  · cases hv
    have key : ∀ j v, j < 7 → r.thread[j]? = some v → w.cell? ⟨tb, i * 7 + j, none⟩ = some v := by
      intro j v hj hv
      have hf := flat_get TRow.thread_length l i j hj
      rw [hr] at hf
      have := World.ownsRow.cells h (g := tb) rfl (i * 7 + j) v (by rw [hf]; exact hv)
      rw [Go.WideShapes.add_plain] at this
      simpa using this
    exact ⟨tb, rfl, (Array.getElem?_eq_some_iff.1 hg).1, key 0 _ (by omega) rfl, key 1 _ (by omega) rfl, key 2 _ (by omega) rfl, key 3 _ (by omega) rfl, key 4 _ (by omega) rfl, key 5 _ (by omega) rfl, key 6 _ (by omega) rfl⟩
theorem ThreadsAt.keeps {w w' : World} {a : Option Addr} {l : List TRow} (h : ThreadsAt w a l) (hK : Keeps [] w w') : ThreadsAt w' a l := by
  intro i r hr
  obtain ⟨tb, e, hb, h0, h1, h2, h3, h4, h5, h6⟩ := h i r hr
  have k : ∀ j, w'.cell? ⟨tb, j, none⟩ = w.cell? ⟨tb, j, none⟩ := fun j => hK.cell (p := ⟨tb, j, none⟩) hb (by simp)
  exact ⟨tb, e, Nat.lt_of_lt_of_le hb hK.size, (k _).trans h0, (k _).trans h1, (k _).trans h2, (k _).trans h3, (k _).trans h4, (k _).trans h5, (k _).trans h6⟩

set_option maxRecDepth 100000 in
set_option maxHeartbeats 2000000 in
theorem threads_same (a a2 : Option Addr) (cap cap2 : Nat) (l : List TRow) (w : World) (h1 : ThreadsAt w a l) (h2 : ThreadsAt w a2 l) (hl : l.length ≤ 64) :
    Calls Tryd.prog 27 #[.slice a l.length cap, .slice a2 l.length cap2] w fun e w' => e = .returned (.bool true) ∧ Keeps [] w w' := by
  have H1 := hid h1
  have H2 := hid h2
  clear h1 h2
  generalize hn : l.length = n at *
  have HN := hid hn
  clear hn
  have hnn : ((n : Int) != (n : Int)) = false := by simp
  go_enter Tryd.func27, Tryd.ntmps27
  go_wp2_with fail
  go_loopw [5] (fun s wr => ∃ k : Nat, k ≤ n ∧ s = .int .i64 k ∧ Keeps [] w wr) (fun s _ => (n - (intOf s).toNat))
  case atStart => exact ⟨0, by omega, rfl, Keeps.refl _ _⟩
  case round =>
    obtain ⟨k, hk, rfl, hKR⟩ := hrel
    by_cases hlt : k < n
    · obtain ⟨r, hr⟩ : ∃ r, l[k]? = some r := ⟨_, List.getElem?_eq_getElem (by rw [HN.out]; omega)⟩
      obtain ⟨t1, rfl, _, p0, p1, p2, p3, p4, p5, p6⟩ := (H1.out.keeps hKR) k r hr
      obtain ⟨t2, rfl, _, q0, q1, q2, q3, q4, q5, q6⟩ := (H2.out.keeps hKR) k r hr
      clear hr
      generalize r.id = r0 at *
      generalize r.state = r1 at *
      generalize r.home = r2 at *
      generalize r.value = r3 at *
      generalize r.joiner = r4 at *
      generalize r.loose = r5 at *
      generalize r.stepping = r6 at *
      go_wp2_with fail
      go_quiet (fail)
      go_wp2_with fail
      go_roundw
      case rel => exact ⟨k + 1, by omega, by go_num, hKR.drewN _⟩
      case measure => simp [intOf]; omega
    · obtain rfl : k = n := by omega
      go_wp2_with fail
      go_ret
      exact ⟨rfl, hKR⟩
end Go.Proofs.YtghgfopcnaoaiaaDoor