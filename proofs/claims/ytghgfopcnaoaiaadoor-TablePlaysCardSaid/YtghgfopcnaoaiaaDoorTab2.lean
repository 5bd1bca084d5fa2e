/-
  The package table: Be, Join, Loose, End, Leave, by what becomes of the rows. (Printed by gen_tab2.py.)
-/
import Derived.Test.YtghgfopcnaoaiaaDoorTab1
namespace Go.Proofs.YtghgfopcnaoaiaaDoor
open Go.RowKit

def zrow : TRow := ⟨0, false, false, 0, 0, 0, 0, 0, false, false⟩
def rowOf (l : List TRow) (i : Nat) : TRow := (l[i]?).getD zrow
def errOf (k : Int) : Option (List (ByteArray × Int) × Int) := if k = 0 then none else some ([(tabS, 0)], k)

/-- What an operation answers, and the rows behind it. -/
def beF (l : List TRow) (id st : Int) : Int × List TRow := match idx l id with
  | none => (7, l)
  | some i => if aliveB st = false then (1, l) else if (rowOf l i).state = 4 then (8, l) else (0, l.set i { rowOf l i with state := st })
def joinF (l : List TRow) (id who : Int) : Int × List TRow := match idx l id with
  | none => (7, l)
  | some i => if who = 0 then (1, l) else if (rowOf l i).joiner ≠ 0 ∨ (rowOf l i).loose = true then (8, l) else (0, l.set i { rowOf l i with joiner := who })
def looseF (l : List TRow) (id : Int) : Int × List TRow := match idx l id with
  | none => (7, l)
  | some i => if (rowOf l i).joiner ≠ 0 ∨ (rowOf l i).loose = true then (8, l)
    else if (rowOf l i).state = 4 ∧ (rowOf l i).stepping = false then (0, l.set i (rowOf l i).free) else (0, l.set i { rowOf l i with loose := true })
def endF (l : List TRow) (id v : Int) : Int × List TRow := match idx l id with
  | none => (7, l)
  | some i => if (rowOf l i).state = 4 then (8, l) else (0, l.set i { rowOf l i with state := 4, value := v, stepping := true })
def leaveF (l : List TRow) (id : Int) : Int × List TRow := match idx l id with
  | none => (7, l)
  | some i => if (rowOf l i).stepping = false then (8, l)
    else if (rowOf l i).loose = true ∨ (rowOf l i).reaped = true then (0, l.set i (rowOf l i).free) else (0, l.set i { rowOf l i with stepping := false })

def OpPost (w : World) (b rb : Nat) (res : Int × List TRow) (e : Ending) (w' : World) : Prop := ∃ v, e = .returned v ∧ ErrV w' v (errOf res.1) ∧ TableAt w' b rb res.2 ∧ Keeps [rb] w w'

theorem post_fail {w : World} {b rb : Nat} {l : List TRow} (hT : TableAt w b rb l) (k : Int) (hk : k ≠ 0) :
    OpPost w b rb (k, l) (.returned (.iface 72 (.pointer (some ⟨w.heap.size, 0, none⟩)))) (w.alloc (.cells #[.string tabS, .int .i64 0, .iface 30 (.int .i64 k)] 76)) := by
  refine ⟨_, rfl, ?_, hT.keeps ((Keeps.refl [] _).alloc _) (by simp) (by simp), (Keeps.refl _ _).alloc _⟩
  show ErrV _ _ (errOf k)
  unfold errOf
  rw [if_neg hk]
  exact ErrAt.fresh _ _ _ _

theorem post_ok {w w' : World} {b rb : Nat} {l' : List TRow} (hT : TableAt w' b rb l') (hK : Keeps [rb] w w') : OpPost w b rb (0, l') (.returned .nilIface) w' :=
  ⟨_, rfl, rfl, hT, hK⟩

theorem rowOf_some {l : List TRow} {i : Nat} {r : TRow} (h : l[i]? = some r) : rowOf l i = r := by unfold rowOf; rw [h]; rfl

section
variable (b rb : Nat) (l : List TRow) (id x : Int) (w : World) (hT : TableAt w b rb l) (h0 : 0 ≤ id)
include hT h0

set_option maxHeartbeats 1000000 in
theorem be_any : Calls Tryd.prog 20 #[.pointer (some ⟨b, 0, none⟩), .int .u64 id, .int .i64 x] w (OpPost w b rb (beF l id x)) := by
  cases hi : idx l id with
  | none =>
    have HI := hid hi
    have HF := hid (show beF l id x = (7, l) by unfold beF; rw [hi])
    rw [HF.out]
    clear hi HF
    go_enter Tryd.func20, Tryd.ntmps20
    go_wp2_with fail
    refine (of_any b rb l id _ hT h0).mono ?_
    rintro e w' ⟨rfl, rfl⟩
    rw [HI.out]
    unfold rowPtr
    go_wp2_with fail
    refine (tfail_any _ _ _).mono ?_
    rintro e w' ⟨rfl, rfl⟩
    go_wp2_with fail
    go_ret
    exact post_fail hT 7 (by decide)
  | some i =>
    obtain ⟨r, hr, htk, hid2⟩ := idx_some hi
    have c4 := hT.cell (j := 4) hr (by omega) rfl
    have f1 := fun j => hT.2.1.frozen j
    have HR := hid hr
    have HO := rowOf_some hr
    have HI := hid hi
    have h1 := hT.start HR.out
    cases ha : aliveB x with
    | false =>
      have HA := hid ha
      have HF := hid (show beF l id x = (1, l) by unfold beF; rw [hi]; simp [ha])
      rw [HF.out]
      clear HF
      clear hi hr HO hid2 htk
      clear ha
      go_enter Tryd.func20, Tryd.ntmps20
      go_wp2_with fail
      refine (of_any b rb l id _ hT h0).mono ?_
      rintro e w' ⟨rfl, rfl⟩
      rw [HI.out]
      unfold rowPtr
      go_wp2_with fail
      refine (alive_any _ _).mono ?_
      rintro e w' ⟨rfl, rfl⟩
      rw [HA.out]
      go_wp2_with fail
      refine (tfail_any _ _ _).mono ?_
      rintro e w' ⟨rfl, rfl⟩
      go_wp2_with fail
      go_ret
      exact post_fail hT 1 (by decide)
    | true =>
      have HA := hid ha
      by_cases hs : r.state = 4
      · rw [hs] at c4
        have HF := hid (show beF l id x = (8, l) by unfold beF; rw [hi]; simp [ha, HO, hs])
        rw [HF.out]
        clear HF
        clear hi hr HO hid2 htk
        clear ha hs
        go_enter Tryd.func20, Tryd.ntmps20
        go_wp2_with fail
        refine (of_any b rb l id _ hT h0).mono ?_
        rintro e w' ⟨rfl, rfl⟩
        rw [HI.out]
        unfold rowPtr
        go_wp2_with fail
        refine (alive_any _ _).mono ?_
        rintro e w' ⟨rfl, rfl⟩
        rw [HA.out]
        go_wp2_with fail
        refine (tfail_any _ _ _).mono ?_
        rintro e w' ⟨rfl, rfl⟩
        go_wp2_with fail
        go_ret
        exact post_fail hT 8 (by decide)
      · have hs4 : (r.state == 4) = false := by simpa using hs
        have HF := hid (show beF l id x = (0, l.set i { r with state := x }) by unfold beF; rw [hi]; simp [ha, HO, hs])
        rw [HF.out]
        clear HF
        clear hi hr HO hid2 htk
        clear ha hs
        go_enter Tryd.func20, Tryd.ntmps20
        go_wp2_with fail
        refine (of_any b rb l id _ hT h0).mono ?_
        rintro e w' ⟨rfl, rfl⟩
        rw [HI.out]
        unfold rowPtr
        go_wp2_with fail
        refine (alive_any _ _).mono ?_
        rintro e w' ⟨rfl, rfl⟩
        rw [HA.out]
        go_wp2_with fail
        go_ret
        exact post_ok (h1.put 4 { r with state := x } (.int .i64 x) (by omega) rfl).2 ((Keeps.refl _ _).set (by simp) _)

set_option maxHeartbeats 1000000 in
theorem join_any : Calls Tryd.prog 23 #[.pointer (some ⟨b, 0, none⟩), .int .u64 id, .int .u64 x] w (OpPost w b rb (joinF l id x)) := by
  cases hi : idx l id with
  | none =>
    have HI := hid hi
    have HF := hid (show joinF l id x = (7, l) by unfold joinF; rw [hi])
    rw [HF.out]
    clear hi HF
    go_enter Tryd.func23, Tryd.ntmps23
    go_wp2_with fail
    refine (of_any b rb l id _ hT h0).mono ?_
    rintro e w' ⟨rfl, rfl⟩
    rw [HI.out]
    unfold rowPtr
    go_wp2_with fail
    refine (tfail_any _ _ _).mono ?_
    rintro e w' ⟨rfl, rfl⟩
    go_wp2_with fail
    go_ret
    exact post_fail hT 7 (by decide)
  | some i =>
    obtain ⟨r, hr, htk, hid2⟩ := idx_some hi
    have c7 := hT.cell (j := 7) hr (by omega) rfl
    have c8 := hT.cell (j := 8) hr (by omega) rfl
    have f1 := fun j => hT.2.1.frozen j
    have HR := hid hr
    have HO := rowOf_some hr
    have HI := hid hi
    have h1 := hT.start HR.out
    by_cases hw : x = 0
    · subst hw
      have HF := hid (show joinF l id 0 = (1, l) by unfold joinF; rw [hi]; simp)
      rw [HF.out]
      clear HF
      clear hi hr HO hid2 htk
      go_enter Tryd.func23, Tryd.ntmps23
      go_wp2_with fail
      refine (of_any b rb l id _ hT h0).mono ?_
      rintro e w' ⟨rfl, rfl⟩
      rw [HI.out]
      unfold rowPtr
      go_wp2_with fail
      refine (tfail_any _ _ _).mono ?_
      rintro e w' ⟨rfl, rfl⟩
      go_wp2_with fail
      go_ret
      exact post_fail hT 1 (by decide)
    · have hw0 : (x == 0) = false := by simpa using hw
      by_cases hj : r.joiner = 0
      · rw [hj] at c7
        cases hl : r.loose with
        | true =>
          rw [hl] at c8
          have HF := hid (show joinF l id x = (8, l) by unfold joinF; rw [hi]; simp [hw, HO, hl])
          rw [HF.out]
          clear HF
          clear hi hr HO hid2 htk
          clear hw hj hl
          go_enter Tryd.func23, Tryd.ntmps23
          go_wp2_with fail
          refine (of_any b rb l id _ hT h0).mono ?_
          rintro e w' ⟨rfl, rfl⟩
          rw [HI.out]
          unfold rowPtr
          go_wp2_with fail
          refine (tfail_any _ _ _).mono ?_
          rintro e w' ⟨rfl, rfl⟩
          go_wp2_with fail
          go_ret
          exact post_fail hT 8 (by decide)
        | false =>
          rw [hl] at c8
          have HF := hid (show joinF l id x = (0, l.set i { r with joiner := x }) by unfold joinF; rw [hi]; simp [hw, HO, hl, hj])
          rw [HF.out]
          clear HF
          clear hi hr HO hid2 htk
          clear hw hj hl
          go_enter Tryd.func23, Tryd.ntmps23
          go_wp2_with fail
          refine (of_any b rb l id _ hT h0).mono ?_
          rintro e w' ⟨rfl, rfl⟩
          rw [HI.out]
          unfold rowPtr
          go_wp2_with fail
          go_ret
          exact post_ok (h1.put 7 { r with joiner := x } (.int .u64 x) (by omega) rfl).2 ((Keeps.refl _ _).set (by simp) _)
      · have hj0 : (r.joiner != 0) = true := by simpa using hj
        have HF := hid (show joinF l id x = (8, l) by unfold joinF; rw [hi]; simp [hw, HO, hj])
        rw [HF.out]
        clear HF
        clear hi hr HO hid2 htk
        clear hw hj
        go_enter Tryd.func23, Tryd.ntmps23
        go_wp2_with fail
        refine (of_any b rb l id _ hT h0).mono ?_
        rintro e w' ⟨rfl, rfl⟩
        rw [HI.out]
        unfold rowPtr
        go_wp2_with fail
        refine (tfail_any _ _ _).mono ?_
        rintro e w' ⟨rfl, rfl⟩
        go_wp2_with fail
        go_ret
        exact post_fail hT 8 (by decide)

set_option maxHeartbeats 1000000 in
theorem loose_any : Calls Tryd.prog 16 #[.pointer (some ⟨b, 0, none⟩), .int .u64 id] w (OpPost w b rb (looseF l id)) := by
  cases hi : idx l id with
  | none =>
    have HI := hid hi
    have HF := hid (show looseF l id = (7, l) by unfold looseF; rw [hi])
    rw [HF.out]
    clear hi HF
    go_enter Tryd.func16, Tryd.ntmps16
    go_wp2_with fail
    refine (of_any b rb l id _ hT h0).mono ?_
    rintro e w' ⟨rfl, rfl⟩
    rw [HI.out]
    unfold rowPtr
    go_wp2_with fail
    refine (tfail_any _ _ _).mono ?_
    rintro e w' ⟨rfl, rfl⟩
    go_wp2_with fail
    go_ret
    exact post_fail hT 7 (by decide)
  | some i =>
    obtain ⟨r, hr, htk, hid2⟩ := idx_some hi
    have c4 := hT.cell (j := 4) hr (by omega) rfl
    have c7 := hT.cell (j := 7) hr (by omega) rfl
    have c8 := hT.cell (j := 8) hr (by omega) rfl
    have c9 := hT.cell (j := 9) hr (by omega) rfl
    have f1 := fun j => hT.2.1.frozen j
    have HR := hid hr
    have HO := rowOf_some hr
    have HI := hid hi
    have h1 := hT.start HR.out
    by_cases hj : r.joiner = 0
    · rw [hj] at c7
      cases hl : r.loose with
      | true =>
        rw [hl] at c8
        have HF := hid (show looseF l id = (8, l) by unfold looseF; rw [hi]; simp [HO, hl])
        rw [HF.out]
        clear HF
        clear hi hr HO hid2 htk
        clear hj hl
        go_enter Tryd.func16, Tryd.ntmps16
        go_wp2_with fail
        refine (of_any b rb l id _ hT h0).mono ?_
        rintro e w' ⟨rfl, rfl⟩
        rw [HI.out]
        unfold rowPtr
        go_wp2_with fail
        refine (tfail_any _ _ _).mono ?_
        rintro e w' ⟨rfl, rfl⟩
        go_wp2_with fail
        go_ret
        exact post_fail hT 8 (by decide)
      | false =>
        rw [hl] at c8
        by_cases hs : r.state = 4
        · rw [hs] at c4
          cases hp : r.stepping with
          | false =>
            rw [hp] at c9
            have HF := hid (show looseF l id = (0, l.set i r.free) by unfold looseF; rw [hi]; simp [HO, hl, hj, hs, hp])
            rw [HF.out]
            clear HF
            clear hi hr HO hid2 htk
            clear hj hl hs hp
            go_enter Tryd.func16, Tryd.ntmps16
            go_wp2_with fail
            refine (of_any b rb l id _ hT h0).mono ?_
            rintro e w' ⟨rfl, rfl⟩
            rw [HI.out]
            unfold rowPtr
            go_wp2_with fail
            have h2 := h1.put 8 { r with loose := true } (.bool true) (by omega) rfl
            refine (forget_any b rb _ i { r with loose := true } _ h2.2 (List.getElem?_set_self h2.1)).mono ?_
            rintro e w' ⟨rfl, hT2, hK2⟩
            go_wp2_with fail
            go_ret
            rw [List.set_set] at hT2
            exact post_ok hT2 (((Keeps.refl _ _).set (by simp) _).trans hK2)
          | true =>
            rw [hp] at c9
            have HF := hid (show looseF l id = (0, l.set i { r with loose := true }) by unfold looseF; rw [hi]; simp [HO, hl, hj, hp])
            rw [HF.out]
            clear HF
            clear hi hr HO hid2 htk
            clear hj hl hs hp
            go_enter Tryd.func16, Tryd.ntmps16
            go_wp2_with fail
            refine (of_any b rb l id _ hT h0).mono ?_
            rintro e w' ⟨rfl, rfl⟩
            rw [HI.out]
            unfold rowPtr
            go_wp2_with fail
            go_ret
            exact post_ok (h1.put 8 { r with loose := true } (.bool true) (by omega) rfl).2 ((Keeps.refl _ _).set (by simp) _)
        · have hs4 : (r.state == 4) = false := by simpa using hs
          have HF := hid (show looseF l id = (0, l.set i { r with loose := true }) by unfold looseF; rw [hi]; simp [HO, hl, hj, hs])
          rw [HF.out]
          clear HF
          clear hi hr HO hid2 htk
          clear hj hl hs
          go_enter Tryd.func16, Tryd.ntmps16
          go_wp2_with fail
          refine (of_any b rb l id _ hT h0).mono ?_
          rintro e w' ⟨rfl, rfl⟩
          rw [HI.out]
          unfold rowPtr
          go_wp2_with fail
          go_ret
          exact post_ok (h1.put 8 { r with loose := true } (.bool true) (by omega) rfl).2 ((Keeps.refl _ _).set (by simp) _)
    · have hj0 : (r.joiner != 0) = true := by simpa using hj
      have HF := hid (show looseF l id = (8, l) by unfold looseF; rw [hi]; simp [HO, hj])
      rw [HF.out]
      clear HF
      clear hi hr HO hid2 htk
      clear hj
      go_enter Tryd.func16, Tryd.ntmps16
      go_wp2_with fail
      refine (of_any b rb l id _ hT h0).mono ?_
      rintro e w' ⟨rfl, rfl⟩
      rw [HI.out]
      unfold rowPtr
      go_wp2_with fail
      refine (tfail_any _ _ _).mono ?_
      rintro e w' ⟨rfl, rfl⟩
      go_wp2_with fail
      go_ret
      exact post_fail hT 8 (by decide)

set_option maxHeartbeats 1000000 in
theorem end_any : Calls Tryd.prog 18 #[.pointer (some ⟨b, 0, none⟩), .int .u64 id, .int .u64 x] w (OpPost w b rb (endF l id x)) := by
  cases hi : idx l id with
  | none =>
    have HI := hid hi
    have HF := hid (show endF l id x = (7, l) by unfold endF; rw [hi])
    rw [HF.out]
    clear hi HF
    go_enter Tryd.func18, Tryd.ntmps18
    go_wp2_with fail
    refine (of_any b rb l id _ hT h0).mono ?_
    rintro e w' ⟨rfl, rfl⟩
    rw [HI.out]
    unfold rowPtr
    go_wp2_with fail
    refine (tfail_any _ _ _).mono ?_
    rintro e w' ⟨rfl, rfl⟩
    go_wp2_with fail
    go_ret
    exact post_fail hT 7 (by decide)
  | some i =>
    obtain ⟨r, hr, htk, hid2⟩ := idx_some hi
    have c4 := hT.cell (j := 4) hr (by omega) rfl
    have c6 := hT.cell (j := 6) hr (by omega) rfl
    have c9 := hT.cell (j := 9) hr (by omega) rfl
    have f1 := fun j => hT.2.1.frozen j
    have HR := hid hr
    have HO := rowOf_some hr
    have HI := hid hi
    have h1 := hT.start HR.out
    by_cases hs : r.state = 4
    · rw [hs] at c4
      have HF := hid (show endF l id x = (8, l) by unfold endF; rw [hi]; simp [HO, hs])
      rw [HF.out]
      clear HF
      clear hi hr HO hid2 htk
      clear hs
      go_enter Tryd.func18, Tryd.ntmps18
      go_wp2_with fail
      refine (of_any b rb l id _ hT h0).mono ?_
      rintro e w' ⟨rfl, rfl⟩
      rw [HI.out]
      unfold rowPtr
      go_wp2_with fail
      refine (tfail_any _ _ _).mono ?_
      rintro e w' ⟨rfl, rfl⟩
      go_wp2_with fail
      go_ret
      exact post_fail hT 8 (by decide)
    · have hs4 : (r.state == 4) = false := by simpa using hs
      have HF := hid (show endF l id x = (0, l.set i { r with state := 4, value := x, stepping := true }) by unfold endF; rw [hi]; simp [HO, hs])
      rw [HF.out]
      clear HF
      clear hi hr HO hid2 htk
      clear hs
      go_enter Tryd.func18, Tryd.ntmps18
      go_wp2_with fail
      refine (of_any b rb l id _ hT h0).mono ?_
      rintro e w' ⟨rfl, rfl⟩
      rw [HI.out]
      unfold rowPtr
      go_wp2_with fail
      go_ret
      have h2 := h1.put 4 { r with state := 4 } (.int .i64 4) (by omega) rfl
      have h3 := h2.put 6 { r with state := 4, value := x } (.int .u64 x) (by omega) rfl
      exact post_ok (h3.put 9 { r with state := 4, value := x, stepping := true } (.bool true) (by omega) rfl).2 ((((Keeps.refl _ _).set (by simp) _).set (by simp) _).set (by simp) _)

set_option maxHeartbeats 1000000 in
theorem leave_any : Calls Tryd.prog 19 #[.pointer (some ⟨b, 0, none⟩), .int .u64 id] w (OpPost w b rb (leaveF l id)) := by
  cases hi : idx l id with
  | none =>
    have HI := hid hi
    have HF := hid (show leaveF l id = (7, l) by unfold leaveF; rw [hi])
    rw [HF.out]
    clear hi HF
    go_enter Tryd.func19, Tryd.ntmps19
    go_wp2_with fail
    refine (of_any b rb l id _ hT h0).mono ?_
    rintro e w' ⟨rfl, rfl⟩
    rw [HI.out]
    unfold rowPtr
    go_wp2_with fail
    refine (tfail_any _ _ _).mono ?_
    rintro e w' ⟨rfl, rfl⟩
    go_wp2_with fail
    go_ret
    exact post_fail hT 7 (by decide)
  | some i =>
    obtain ⟨r, hr, htk, hid2⟩ := idx_some hi
    have c2 := hT.cell (j := 2) hr (by omega) rfl
    have c8 := hT.cell (j := 8) hr (by omega) rfl
    have c9 := hT.cell (j := 9) hr (by omega) rfl
    have f1 := fun j => hT.2.1.frozen j
    have HR := hid hr
    have HO := rowOf_some hr
    have HI := hid hi
    have h1 := hT.start HR.out
    cases hp : r.stepping with
    | false =>
      rw [hp] at c9
      have HF := hid (show leaveF l id = (8, l) by unfold leaveF; rw [hi]; simp [HO, hp])
      rw [HF.out]
      clear HF
      clear hi hr HO hid2 htk
      clear hp
      go_enter Tryd.func19, Tryd.ntmps19
      go_wp2_with fail
      refine (of_any b rb l id _ hT h0).mono ?_
      rintro e w' ⟨rfl, rfl⟩
      rw [HI.out]
      unfold rowPtr
      go_wp2_with fail
      refine (tfail_any _ _ _).mono ?_
      rintro e w' ⟨rfl, rfl⟩
      go_wp2_with fail
      go_ret
      exact post_fail hT 8 (by decide)
    | true =>
      rw [hp] at c9
      cases hl : r.loose with
      | true =>
        rw [hl] at c8
        have HF := hid (show leaveF l id = (0, l.set i r.free) by unfold leaveF; rw [hi]; simp [HO, hp, hl])
        rw [HF.out]
        clear HF
        clear hi hr HO hid2 htk
        clear hp hl
        go_enter Tryd.func19, Tryd.ntmps19
        go_wp2_with fail
        refine (of_any b rb l id _ hT h0).mono ?_
        rintro e w' ⟨rfl, rfl⟩
        rw [HI.out]
        unfold rowPtr
        go_wp2_with fail
        have h2 := h1.put 9 { r with stepping := false } (.bool false) (by omega) rfl
        refine (forget_any b rb _ i { r with stepping := false } _ h2.2 (List.getElem?_set_self h2.1)).mono ?_
        rintro e w' ⟨rfl, hT2, hK2⟩
        go_wp2_with fail
        go_ret
        rw [List.set_set] at hT2
        exact post_ok hT2 (((Keeps.refl _ _).set (by simp) _).trans hK2)
      | false =>
        rw [hl] at c8
        cases hq : r.reaped with
        | true =>
          rw [hq] at c2
          have HF := hid (show leaveF l id = (0, l.set i r.free) by unfold leaveF; rw [hi]; simp [HO, hp, hq])
          rw [HF.out]
          clear HF
          clear hi hr HO hid2 htk
          clear hp hl hq
          go_enter Tryd.func19, Tryd.ntmps19
          go_wp2_with fail
          refine (of_any b rb l id _ hT h0).mono ?_
          rintro e w' ⟨rfl, rfl⟩
          rw [HI.out]
          unfold rowPtr
          go_wp2_with fail
          have h2 := h1.put 9 { r with stepping := false } (.bool false) (by omega) rfl
          refine (forget_any b rb _ i { r with stepping := false } _ h2.2 (List.getElem?_set_self h2.1)).mono ?_
          rintro e w' ⟨rfl, hT2, hK2⟩
          go_wp2_with fail
          go_ret
          rw [List.set_set] at hT2
          exact post_ok hT2 (((Keeps.refl _ _).set (by simp) _).trans hK2)
        | false =>
          rw [hq] at c2
          have HF := hid (show leaveF l id = (0, l.set i { r with stepping := false }) by unfold leaveF; rw [hi]; simp [HO, hp, hl, hq])
          rw [HF.out]
          clear HF
          clear hi hr HO hid2 htk
          clear hp hl hq
          go_enter Tryd.func19, Tryd.ntmps19
          go_wp2_with fail
          refine (of_any b rb l id _ hT h0).mono ?_
          rintro e w' ⟨rfl, rfl⟩
          rw [HI.out]
          unfold rowPtr
          go_wp2_with fail
          go_ret
          exact post_ok (h1.put 9 { r with stepping := false } (.bool false) (by omega) rfl).2 ((Keeps.refl _ _).set (by simp) _)

end
end Go.Proofs.YtghgfopcnaoaiaaDoor
