/-
  The package table: Status, Look, Reap, New.
-/
import Derived.Test.YtghgfopcnaoaiaaDoorTab2
import Derived.Deep.QuietTactic
import Derived.BigQuiet
import Derived.Deep.LoopGhost
namespace Go.Proofs.YtghgfopcnaoaiaaDoor
open Go.RowKit

def statusF (l : List TRow) (id : Int) : Int := match idx l id with
  | none => 0
  | some i => if (rowOf l i).reaped = true then 0 else if (rowOf l i).loose = true then 2 else if (rowOf l i).joiner ≠ 0 then 4 else if (rowOf l i).state = 4 then 3 else 1

/-- A thread, by its fields. -/
def TRow.thread (r : TRow) : List Value := [.int .u64 r.id, .int .i64 r.state, .int .u64 r.home, .int .u64 r.value, .int .u64 r.joiner, .bool r.loose, .bool r.stepping]
theorem TRow.thread_length (r : TRow) : r.thread.length = 7 := rfl

section
variable (b rb : Nat) (l : List TRow) (id x : Int) (w : World) (hT : TableAt w b rb l) (h0 : 0 ≤ id)
include hT h0

set_option maxHeartbeats 1000000 in
theorem status_any : Calls Tryd.prog 22 #[.pointer (some ⟨b, 0, none⟩), .int .u64 id] w fun e w' => e = .returned (.int .i64 (statusF l id)) ∧ w = w' := by
  cases hi : idx l id with
  | none =>
    have HI := hid hi
    have HF := hid (show statusF l id = 0 by unfold statusF; rw [hi])
    rw [HF.out]
    clear hi HF
    go_enter Tryd.func22, Tryd.ntmps22
    go_wp2_with fail
    refine (of_any b rb l id _ hT h0).mono ?_
    rintro e w' ⟨rfl, rfl⟩
    rw [HI.out]
    unfold rowPtr
    go_wp2_with fail
    go_ret
    exact ⟨rfl, rfl⟩
  | some i =>
    obtain ⟨r, hr, htk, hid2⟩ := idx_some hi
    have c2 := hT.cell (j := 2) hr (by omega) rfl
    have c4 := hT.cell (j := 4) hr (by omega) rfl
    have c7 := hT.cell (j := 7) hr (by omega) rfl
    have c8 := hT.cell (j := 8) hr (by omega) rfl
    have HO := rowOf_some hr
    have HI := hid hi
    have key : ∀ q, statusF l id = q → Calls Tryd.prog 22 #[.pointer (some ⟨b, 0, none⟩), .int .u64 id] w (fun e w' => e = .returned (.int .i64 q) ∧ w = w') → Calls Tryd.prog 22 #[.pointer (some ⟨b, 0, none⟩), .int .u64 id] w (fun e w' => e = .returned (.int .i64 (statusF l id)) ∧ w = w') := fun q h k => by rw [h]; exact k
    cases hq : r.reaped with
    | true =>
      refine key 0 (by unfold statusF; rw [hi]; simp [HO, hq]) ?_
      rw [hq] at c2
      clear hi hr HO hid2 htk key hq
      go_enter Tryd.func22, Tryd.ntmps22
      go_wp2_with fail
      refine (of_any b rb l id _ hT h0).mono ?_
      rintro e w' ⟨rfl, rfl⟩
      rw [HI.out]
      unfold rowPtr
      go_wp2_with fail
      go_ret
      exact ⟨rfl, rfl⟩
    | false =>
      rw [hq] at c2
      cases hl : r.loose with
      | true =>
        refine key 2 (by unfold statusF; rw [hi]; simp [HO, hq, hl]) ?_
        rw [hl] at c8
        clear hi hr HO hid2 htk key hq hl
        go_enter Tryd.func22, Tryd.ntmps22
        go_wp2_with fail
        refine (of_any b rb l id _ hT h0).mono ?_
        rintro e w' ⟨rfl, rfl⟩
        rw [HI.out]
        unfold rowPtr
        go_wp2_with fail
        go_ret
        exact ⟨rfl, rfl⟩
      | false =>
        rw [hl] at c8
        by_cases hj : r.joiner = 0
        · rw [hj] at c7
          by_cases hs : r.state = 4
          · refine key 3 (by unfold statusF; rw [hi]; simp [HO, hq, hl, hj, hs]) ?_
            rw [hs] at c4
            clear hi hr HO hid2 htk key hq hl hj hs
            go_enter Tryd.func22, Tryd.ntmps22
            go_wp2_with fail
            refine (of_any b rb l id _ hT h0).mono ?_
            rintro e w' ⟨rfl, rfl⟩
            rw [HI.out]
            unfold rowPtr
            go_wp2_with fail
            go_ret
            exact ⟨rfl, rfl⟩
          · have hs4 : (r.state == 4) = false := by simpa using hs
            refine key 1 (by unfold statusF; rw [hi]; simp [HO, hq, hl, hj, hs]) ?_
            clear hi hr HO hid2 htk key hq hl hj hs
            go_enter Tryd.func22, Tryd.ntmps22
            go_wp2_with fail
            refine (of_any b rb l id _ hT h0).mono ?_
            rintro e w' ⟨rfl, rfl⟩
            rw [HI.out]
            unfold rowPtr
            go_wp2_with fail
            go_ret
            exact ⟨rfl, rfl⟩
        · have hj0 : (r.joiner != 0) = true := by simpa using hj
          refine key 4 (by unfold statusF; rw [hi]; simp [HO, hq, hl, hj]) ?_
          clear hi hr HO hid2 htk key hq hl hj
          go_enter Tryd.func22, Tryd.ntmps22
          go_wp2_with fail
          refine (of_any b rb l id _ hT h0).mono ?_
          rintro e w' ⟨rfl, rfl⟩
          rw [HI.out]
          unfold rowPtr
          go_wp2_with fail
          go_ret
          exact ⟨rfl, rfl⟩

/-- Look's answer. -/
def lookV (l : List TRow) (id : Int) : Value := match idx l id with
  | none => .tuple #[.agg zrow.thread.toArray, .bool false]
  | some i => .tuple #[.agg (rowOf l i).thread.toArray, .bool true]

set_option maxHeartbeats 1000000 in
theorem look_any : Calls Tryd.prog 21 #[.pointer (some ⟨b, 0, none⟩), .int .u64 id] w fun e w' => e = .returned (lookV l id) ∧ Keeps [] w w' := by
  have hTa := hT.keeps ((Keeps.refl [] w).alloc (.cells #[.int .u64 0, .int .i64 0, .int .u64 0, .int .u64 0, .int .u64 0, .bool false, .bool false] 48)) (by simp) (by simp)
  cases hi : idx l id with
  | none =>
    have HI := hid hi
    have HF := hid (show lookV l id = .tuple #[.agg #[.int .u64 0, .int .i64 0, .int .u64 0, .int .u64 0, .int .u64 0, .bool false, .bool false], .bool false] by unfold lookV; rw [hi]; rfl)
    rw [HF.out]
    clear hi HF
    go_enter Tryd.func21, Tryd.ntmps21
    go_wp2_with fail
    refine (of_any b rb l id _ hTa h0).mono ?_
    rintro e w' ⟨rfl, rfl⟩
    rw [HI.out]
    unfold rowPtr
    go_wp2_with fail
    exact bodyPost_ret (v := .tuple #[.agg #[.int .u64 0, .int .i64 0, .int .u64 0, .int .u64 0, .int .u64 0, .bool false, .bool false], .bool false]) (by simp [results, Tryd.results21, go_sem]) rfl ⟨rfl, (Keeps.refl _ _).alloc _⟩
  | some i =>
    obtain ⟨r, hr, htk, hid2⟩ := idx_some hi
    have c3 := hTa.cell (j := 3) hr (by omega) rfl
    have c4 := hTa.cell (j := 4) hr (by omega) rfl
    have c5 := hTa.cell (j := 5) hr (by omega) rfl
    have c6 := hTa.cell (j := 6) hr (by omega) rfl
    have c7 := hTa.cell (j := 7) hr (by omega) rfl
    have c8 := hTa.cell (j := 8) hr (by omega) rfl
    have c9 := hTa.cell (j := 9) hr (by omega) rfl
    have HO := rowOf_some hr
    have HI := hid hi
    have HF := hid (show lookV l id = .tuple #[.agg #[.int .u64 r.id, .int .i64 r.state, .int .u64 r.home, .int .u64 r.value, .int .u64 r.joiner, .bool r.loose, .bool r.stepping], .bool true] by unfold lookV; rw [hi]; simp only [HO]; rfl)
    rw [HF.out]
    clear hi HF hr HO hid2 htk
    go_enter Tryd.func21, Tryd.ntmps21
    go_wp2_with fail
    refine (of_any b rb l id _ hTa h0).mono ?_
    rintro e w' ⟨rfl, rfl⟩
    rw [HI.out]
    unfold rowPtr
    go_wp2_with fail
    exact bodyPost_ret (v := .tuple #[.agg #[.int .u64 r.id, .int .i64 r.state, .int .u64 r.home, .int .u64 r.value, .int .u64 r.joiner, .bool r.loose, .bool r.stepping], .bool true]) (by simp [results, Tryd.results21, go_sem]) rfl ⟨rfl, (Keeps.refl _ _).alloc _⟩
end
end Go.Proofs.YtghgfopcnaoaiaaDoor
