/-
  The document's table: Be, Join, Loose, End, Leave, by what becomes of the rows. (Printed by gen_rt2.py.)
-/
import Derived.Test.YtghgfopcnaoaiaaDoorRt1
namespace Go.Proofs.YtghgfopcnaoaiaaDoor
open Go.RowKit

def ROpPost (w : World) (b rb : Nat) (res : Int × List TRow) (e : Ending) (w' : World) : Prop := ∃ v, e = .returned v ∧ DocAt w' v (errOf res.1) ∧ RTabAt w' b rb res.2 ∧ Keeps [rb] w w'
/-- The same where two more are told, that nobody looks at. -/
def RTriPost (w : World) (b rb : Nat) (res : Int × List TRow) (e : Ending) (w' : World) : Prop := ∃ h f v, e = .returned (.tuple #[.int .u64 h, .bool f, v]) ∧ DocAt w' v (errOf res.1) ∧ RTabAt w' b rb res.2 ∧ Keeps [rb] w w'

theorem rdoc {w w' : World} {u : Value} {k : Int} (h1 : 1 ≤ k) (h2 : k ≤ 10) (hF : FailAt w' u [(tabS, 0)] k) : DocAt w' u (errOf k) := by
  have _ := w
  unfold errOf
  rw [if_neg (by omega)]
  exact ⟨hF, by simp, h1, h2⟩
theorem rpost_fail {w w' : World} {b rb : Nat} {l : List TRow} {u : Value} {k : Int} (hT : RTabAt w b rb l) (h1 : 1 ≤ k) (h2 : k ≤ 10) (hF : FailAt w' u [(tabS, 0)] k) (hK : Keeps [] w w') : ROpPost w b rb (k, l) (.returned u) w' :=
  ⟨u, rfl, rdoc (w := w) h1 h2 hF, hT.keeps hK (by simp) (by simp), hK.mono (by simp)⟩
theorem rtri_fail {w w' : World} {b rb : Nat} {l : List TRow} {u : Value} {k : Int} (hT : RTabAt w b rb l) (h1 : 1 ≤ k) (h2 : k ≤ 10) (hF : FailAt w' u [(tabS, 0)] k) (hK : Keeps [] w w') : RTriPost w b rb (k, l) (.returned (.tuple #[.int .u64 0, .bool false, u])) w' :=
  ⟨0, false, u, rfl, rdoc (w := w) h1 h2 hF, hT.keeps hK (by simp) (by simp), hK.mono (by simp)⟩
theorem rpost_ok {w w' : World} {b rb : Nat} {l' : List TRow} (hT : RTabAt w' b rb l') (hK : Keeps [rb] w w') : ROpPost w b rb (0, l') (.returned (.pointer none)) w' := ⟨_, rfl, rfl, hT, hK⟩
theorem rtri_ok {w w' : World} {b rb : Nat} {l' : List TRow} (h : Int) (f : Bool) (hT : RTabAt w' b rb l') (hK : Keeps [rb] w w') : RTriPost w b rb (0, l') (.returned (.tuple #[.int .u64 h, .bool f, .pointer none])) w' := ⟨h, f, _, rfl, rfl, hT, hK⟩

theorem RPutAt.first {w : World} {b rb : Nat} {l : List TRow} {i : Nat} {r : TRow} (h : RPutAt w b rb l i r) (r' : TRow) (v : Value) (hv : r'.rcells = r.rcells.set 0 v) : RPutAt (w.setCell ⟨rb, i * 9, none⟩ v) b rb l i r' := h.put 0 r' v (by omega) hv

section
variable (b rb : Nat) (l : List TRow) (id x : Int) (w : World) (hT : RTabAt w b rb l) (hg : Tg l)
include hT hg

set_option maxHeartbeats 1000000 in
theorem rbe_any : Calls Tryd.prog 37 #[.pointer (some ⟨b, 0, none⟩), .int .u64 id, .int .i64 x] w (ROpPost w b rb (beF l id x)) := by
  cases hi : idx l id with
  | none =>
    have HI := hid hi
    have HF := hid (show beF l id x = (7, l) by unfold beF; rw [hi])
    rw [HF.out]
    clear hi HF
    go_enter Tryd.func37, Tryd.ntmps37
    go_wp2_with fail
    refine (find_any b rb l id _ hT hg).mono ?_
    rintro e w' ⟨rfl, rfl⟩
    rw [HI.out]
    unfold rrowPtr
    go_wp2_with fail
    refine (rno_any 7 _).mono ?_
    rintro e w' ⟨u, rfl, hF, hK⟩
    go_wp2_with fail
    go_ret
    exact rpost_fail hT (by omega) (by omega) hF hK
  | some i =>
    obtain ⟨r, hr, htk, hid2⟩ := idx_some hi
    have c1 := hT.cell (j := 1) hr (by omega) rfl
    have f1 := fun j => hT.2.1.frozen j
    have HR := hid hr
    have HO := rowOf_some hr
    have HI := hid hi
    have h1 := hT.start HR.out
    cases ha : aliveB x with
    | false =>
      have hb : (x == 1) = false ∧ (x == 2) = false ∧ (x == 3) = false := by simpa [aliveB] using ha
      obtain ⟨hb1, hb2, hb3⟩ := hb
      have n1 : (x != 1) = true := by simpa using hb1
      have n2 : (x != 2) = true := by simpa using hb2
      have n3 : (x != 3) = true := by simpa using hb3
      have HF := hid (show beF l id x = (1, l) by unfold beF; rw [hi]; simp [ha])
      rw [HF.out]
      clear HF
      clear hi hr HO hid2 htk
      clear ha hb1 hb2 hb3
      go_enter Tryd.func37, Tryd.ntmps37
      go_wp2_with fail
      refine (find_any b rb l id _ hT hg).mono ?_
      rintro e w' ⟨rfl, rfl⟩
      rw [HI.out]
      unfold rrowPtr
      go_wp2_with fail
      refine (rno_any 1 _).mono ?_
      rintro e w' ⟨u, rfl, hF, hK⟩
      go_wp2_with fail
      go_ret
      exact rpost_fail hT (by omega) (by omega) hF hK
    | true =>
      have hx : x = 1 ∨ x = 2 ∨ x = 3 := by simpa [aliveB] using ha
      by_cases hs : r.state = 4
      · rw [hs] at c1
        have HF := hid (show beF l id x = (8, l) by unfold beF; rw [hi]; simp [ha, HO, hs])
        rw [HF.out]
        clear HF
        clear hi hr HO hid2 htk
        clear ha hs
        rcases hx with rfl | rfl | rfl
        all_goals
          go_enter Tryd.func37, Tryd.ntmps37
          go_wp2_with fail
          refine (find_any b rb l id _ hT hg).mono ?_
          rintro e w' ⟨rfl, rfl⟩
          rw [HI.out]
          unfold rrowPtr
          go_wp2_with fail
          refine (rno_any 8 _).mono ?_
          rintro e w' ⟨u, rfl, hF, hK⟩
          go_wp2_with fail
          go_ret
          exact rpost_fail hT (by omega) (by omega) hF hK
      · have hs4 : (r.state == 4) = false := by simpa using hs
        have HF := hid (show beF l id x = (0, l.set i { r with state := x }) by unfold beF; rw [hi]; simp [ha, HO, hs])
        rw [HF.out]
        clear HF
        clear hi hr HO hid2 htk
        clear ha hs
        rcases hx with rfl | rfl | rfl
        · go_enter Tryd.func37, Tryd.ntmps37
          go_wp2_with fail
          refine (find_any b rb l id _ hT hg).mono ?_
          rintro e w' ⟨rfl, rfl⟩
          rw [HI.out]
          unfold rrowPtr
          go_wp2_with fail
          go_ret
          exact rpost_ok (h1.put 1 { r with state := 1 } (.int .i64 1) (by omega) rfl).2 ((Keeps.refl _ _).set (by simp) _)
        · go_enter Tryd.func37, Tryd.ntmps37
          go_wp2_with fail
          refine (find_any b rb l id _ hT hg).mono ?_
          rintro e w' ⟨rfl, rfl⟩
          rw [HI.out]
          unfold rrowPtr
          go_wp2_with fail
          go_ret
          exact rpost_ok (h1.put 1 { r with state := 2 } (.int .i64 2) (by omega) rfl).2 ((Keeps.refl _ _).set (by simp) _)
        · go_enter Tryd.func37, Tryd.ntmps37
          go_wp2_with fail
          refine (find_any b rb l id _ hT hg).mono ?_
          rintro e w' ⟨rfl, rfl⟩
          rw [HI.out]
          unfold rrowPtr
          go_wp2_with fail
          go_ret
          exact rpost_ok (h1.put 1 { r with state := 3 } (.int .i64 3) (by omega) rfl).2 ((Keeps.refl _ _).set (by simp) _)

set_option maxHeartbeats 1000000 in
theorem rjoin_any : Calls Tryd.prog 38 #[.pointer (some ⟨b, 0, none⟩), .int .u64 id, .int .u64 x] w (ROpPost w b rb (joinF l id x)) := by
  cases hi : idx l id with
  | none =>
    have HI := hid hi
    have HF := hid (show joinF l id x = (7, l) by unfold joinF; rw [hi])
    rw [HF.out]
    clear hi HF
    go_enter Tryd.func38, Tryd.ntmps38
    go_wp2_with fail
    refine (find_any b rb l id _ hT hg).mono ?_
    rintro e w' ⟨rfl, rfl⟩
    rw [HI.out]
    unfold rrowPtr
    go_wp2_with fail
    refine (rno_any 7 _).mono ?_
    rintro e w' ⟨u, rfl, hF, hK⟩
    go_wp2_with fail
    go_ret
    exact rpost_fail hT (by omega) (by omega) hF hK
  | some i =>
    obtain ⟨r, hr, htk, hid2⟩ := idx_some hi
    have c4 := hT.cell (j := 4) hr (by omega) rfl
    have c5 := hT.cell (j := 5) hr (by omega) rfl
    have f1 := fun j => hT.2.1.frozen j
    have HR := hid hr
    have HO := rowOf_some hr
    have HI := hid hi
    have h1 := hT.start HR.out
    by_cases hw : x = 0
    · subst hw
      have HF := hid (show joinF l id 0 = (1, l) by unfold joinF; rw [hi]; simp)
      rw [HF.out]
      clear HF
      clear hi hr HO hid2 htk
      go_enter Tryd.func38, Tryd.ntmps38
      go_wp2_with fail
      refine (find_any b rb l id _ hT hg).mono ?_
      rintro e w' ⟨rfl, rfl⟩
      rw [HI.out]
      unfold rrowPtr
      go_wp2_with fail
      refine (rno_any 1 _).mono ?_
      rintro e w' ⟨u, rfl, hF, hK⟩
      go_wp2_with fail
      go_ret
      exact rpost_fail hT (by omega) (by omega) hF hK
    · have hw0 : (x == 0) = false := by simpa using hw
      by_cases hj : r.joiner = 0
      · rw [hj] at c4
        cases hl : r.loose with
        | true =>
          rw [hl] at c5
          have HF := hid (show joinF l id x = (8, l) by unfold joinF; rw [hi]; simp [hw, HO, hl])
          rw [HF.out]
          clear HF
          clear hi hr HO hid2 htk
          clear hw hj hl
          go_enter Tryd.func38, Tryd.ntmps38
          go_wp2_with fail
          refine (find_any b rb l id _ hT hg).mono ?_
          rintro e w' ⟨rfl, rfl⟩
          rw [HI.out]
          unfold rrowPtr
          go_wp2_with fail
          refine (rno_any 8 _).mono ?_
          rintro e w' ⟨u, rfl, hF, hK⟩
          go_wp2_with fail
          go_ret
          exact rpost_fail hT (by omega) (by omega) hF hK
        | false =>
          rw [hl] at c5
          have HF := hid (show joinF l id x = (0, l.set i { r with joiner := x }) by unfold joinF; rw [hi]; simp [hw, HO, hl, hj])
          rw [HF.out]
          clear HF
          clear hi hr HO hid2 htk
          clear hw hj hl
          go_enter Tryd.func38, Tryd.ntmps38
          go_wp2_with fail
          refine (find_any b rb l id _ hT hg).mono ?_
          rintro e w' ⟨rfl, rfl⟩
          rw [HI.out]
          unfold rrowPtr
          go_wp2_with fail
          go_ret
          exact rpost_ok (h1.put 4 { r with joiner := x } (.int .u64 x) (by omega) rfl).2 ((Keeps.refl _ _).set (by simp) _)
      · have hj0 : (r.joiner != 0) = true := by simpa using hj
        have HF := hid (show joinF l id x = (8, l) by unfold joinF; rw [hi]; simp [hw, HO, hj])
        rw [HF.out]
        clear HF
        clear hi hr HO hid2 htk
        clear hw hj
        go_enter Tryd.func38, Tryd.ntmps38
        go_wp2_with fail
        refine (find_any b rb l id _ hT hg).mono ?_
        rintro e w' ⟨rfl, rfl⟩
        rw [HI.out]
        unfold rrowPtr
        go_wp2_with fail
        refine (rno_any 8 _).mono ?_
        rintro e w' ⟨u, rfl, hF, hK⟩
        go_wp2_with fail
        go_ret
        exact rpost_fail hT (by omega) (by omega) hF hK

set_option maxHeartbeats 1000000 in
theorem rloose_any : Calls Tryd.prog 39 #[.pointer (some ⟨b, 0, none⟩), .int .u64 id] w (RTriPost w b rb (looseF l id)) := by
  cases hi : idx l id with
  | none =>
    have HI := hid hi
    have HF := hid (show looseF l id = (7, l) by unfold looseF; rw [hi])
    rw [HF.out]
    clear hi HF
    go_enter Tryd.func39, Tryd.ntmps39
    go_wp2_with fail
    refine (find_any b rb l id _ hT hg).mono ?_
    rintro e w' ⟨rfl, rfl⟩
    rw [HI.out]
    unfold rrowPtr
    go_wp2_with fail
    refine (rno_any 7 _).mono ?_
    rintro e w' ⟨u, rfl, hF, hK⟩
    go_wp2_with fail
    exact bodyPost_ret (v := .tuple #[.int .u64 0, .bool false, u]) (by simp [results, Tryd.results39, go_sem]) rfl (rtri_fail hT (by omega) (by omega) hF hK)
  | some i =>
    obtain ⟨r, hr, htk, hid2⟩ := idx_some hi
    have c1 := hT.cell (j := 1) hr (by omega) rfl
    have c2 := hT.cell (j := 2) hr (by omega) rfl
    have c4 := hT.cell (j := 4) hr (by omega) rfl
    have c5 := hT.cell (j := 5) hr (by omega) rfl
    have c6 := hT.cell (j := 6) hr (by omega) rfl
    have f1 := fun j => hT.2.1.frozen j
    have HR := hid hr
    have HO := rowOf_some hr
    have HI := hid hi
    have h1 := hT.start HR.out
    by_cases hj : r.joiner = 0
    · rw [hj] at c4
      cases hl : r.loose with
      | true =>
        rw [hl] at c5
        have HF := hid (show looseF l id = (8, l) by unfold looseF; rw [hi]; simp [HO, hl])
        rw [HF.out]
        clear HF
        clear hi hr HO hid2 htk
        clear hj hl
        go_enter Tryd.func39, Tryd.ntmps39
        go_wp2_with fail
        refine (find_any b rb l id _ hT hg).mono ?_
        rintro e w' ⟨rfl, rfl⟩
        rw [HI.out]
        unfold rrowPtr
        go_wp2_with fail
        refine (rno_any 8 _).mono ?_
        rintro e w' ⟨u, rfl, hF, hK⟩
        go_wp2_with fail
        exact bodyPost_ret (v := .tuple #[.int .u64 0, .bool false, u]) (by simp [results, Tryd.results39, go_sem]) rfl (rtri_fail hT (by omega) (by omega) hF hK)
      | false =>
        rw [hl] at c5
        by_cases hs : r.state = 4
        · rw [hs] at c1
          cases hp : r.stepping with
          | false =>
            rw [hp] at c6
            have HF := hid (show looseF l id = (0, l.set i r.free) by unfold looseF; rw [hi]; simp [HO, hl, hj, hs, hp])
            rw [HF.out]
            clear HF
            clear hi hr HO hid2 htk
            clear hj hl hs hp
            go_enter Tryd.func39, Tryd.ntmps39
            go_wp2_with fail
            refine (find_any b rb l id _ hT hg).mono ?_
            rintro e w' ⟨rfl, rfl⟩
            rw [HI.out]
            unfold rrowPtr
            go_wp2_with fail
            have h2 := h1.put 5 { r with loose := true } (.bool true) (by omega) rfl
            refine (rforget_any b rb _ i { r with loose := true } _ h2.2 (List.getElem?_set_self h2.1)).mono ?_
            rintro e w' ⟨rfl, hT2, hK2⟩
            rw [List.set_set] at hT2
            go_wp2_with fail
            exact bodyPost_ret (v := .tuple #[.int .u64 r.home, .bool true, .pointer none]) (by simp [results, Tryd.results39, go_sem]) rfl (rtri_ok r.home true hT2 (((Keeps.refl _ _).set (by simp) _).trans hK2))
          | true =>
            rw [hp] at c6
            have HF := hid (show looseF l id = (0, l.set i { r with loose := true }) by unfold looseF; rw [hi]; simp [HO, hl, hj, hp])
            rw [HF.out]
            clear HF
            clear hi hr HO hid2 htk
            clear hj hl hs hp
            go_enter Tryd.func39, Tryd.ntmps39
            go_wp2_with fail
            refine (find_any b rb l id _ hT hg).mono ?_
            rintro e w' ⟨rfl, rfl⟩
            rw [HI.out]
            unfold rrowPtr
            go_wp2_with fail
            exact bodyPost_ret (v := .tuple #[.int .u64 0, .bool false, .pointer none]) (by simp [results, Tryd.results39, go_sem]) rfl (rtri_ok 0 false (h1.put 5 { r with loose := true } (.bool true) (by omega) rfl).2 ((Keeps.refl _ _).set (by simp) _))
        · have hs4 : (r.state == 4) = false := by simpa using hs
          have HF := hid (show looseF l id = (0, l.set i { r with loose := true }) by unfold looseF; rw [hi]; simp [HO, hl, hj, hs])
          rw [HF.out]
          clear HF
          clear hi hr HO hid2 htk
          clear hj hl hs
          go_enter Tryd.func39, Tryd.ntmps39
          go_wp2_with fail
          refine (find_any b rb l id _ hT hg).mono ?_
          rintro e w' ⟨rfl, rfl⟩
          rw [HI.out]
          unfold rrowPtr
          go_wp2_with fail
          exact bodyPost_ret (v := .tuple #[.int .u64 0, .bool false, .pointer none]) (by simp [results, Tryd.results39, go_sem]) rfl (rtri_ok 0 false (h1.put 5 { r with loose := true } (.bool true) (by omega) rfl).2 ((Keeps.refl _ _).set (by simp) _))
    · have hj0 : (r.joiner != 0) = true := by simpa using hj
      have HF := hid (show looseF l id = (8, l) by unfold looseF; rw [hi]; simp [HO, hj])
      rw [HF.out]
      clear HF
      clear hi hr HO hid2 htk
      clear hj
      go_enter Tryd.func39, Tryd.ntmps39
      go_wp2_with fail
      refine (find_any b rb l id _ hT hg).mono ?_
      rintro e w' ⟨rfl, rfl⟩
      rw [HI.out]
      unfold rrowPtr
      go_wp2_with fail
      refine (rno_any 8 _).mono ?_
      rintro e w' ⟨u, rfl, hF, hK⟩
      go_wp2_with fail
      exact bodyPost_ret (v := .tuple #[.int .u64 0, .bool false, u]) (by simp [results, Tryd.results39, go_sem]) rfl (rtri_fail hT (by omega) (by omega) hF hK)

set_option maxHeartbeats 1000000 in
theorem rend_any : Calls Tryd.prog 40 #[.pointer (some ⟨b, 0, none⟩), .int .u64 id, .int .u64 x] w (ROpPost w b rb (endF l id x)) := by
  cases hi : idx l id with
  | none =>
    have HI := hid hi
    have HF := hid (show endF l id x = (7, l) by unfold endF; rw [hi])
    rw [HF.out]
    clear hi HF
    go_enter Tryd.func40, Tryd.ntmps40
    go_wp2_with fail
    refine (find_any b rb l id _ hT hg).mono ?_
    rintro e w' ⟨rfl, rfl⟩
    rw [HI.out]
    unfold rrowPtr
    go_wp2_with fail
    refine (rno_any 7 _).mono ?_
    rintro e w' ⟨u, rfl, hF, hK⟩
    go_wp2_with fail
    go_ret
    exact rpost_fail hT (by omega) (by omega) hF hK
  | some i =>
    obtain ⟨r, hr, htk, hid2⟩ := idx_some hi
    have c1 := hT.cell (j := 1) hr (by omega) rfl
    have c3 := hT.cell (j := 3) hr (by omega) rfl
    have c6 := hT.cell (j := 6) hr (by omega) rfl
    have f1 := fun j => hT.2.1.frozen j
    have HR := hid hr
    have HO := rowOf_some hr
    have HI := hid hi
    have h1 := hT.start HR.out
    by_cases hs : r.state = 4
    · rw [hs] at c1
      have HF := hid (show endF l id x = (8, l) by unfold endF; rw [hi]; simp [HO, hs])
      rw [HF.out]
      clear HF
      clear hi hr HO hid2 htk
      clear hs
      go_enter Tryd.func40, Tryd.ntmps40
      go_wp2_with fail
      refine (find_any b rb l id _ hT hg).mono ?_
      rintro e w' ⟨rfl, rfl⟩
      rw [HI.out]
      unfold rrowPtr
      go_wp2_with fail
      refine (rno_any 8 _).mono ?_
      rintro e w' ⟨u, rfl, hF, hK⟩
      go_wp2_with fail
      go_ret
      exact rpost_fail hT (by omega) (by omega) hF hK
    · have hs4 : (r.state == 4) = false := by simpa using hs
      have HF := hid (show endF l id x = (0, l.set i { r with state := 4, value := x, stepping := true }) by unfold endF; rw [hi]; simp [HO, hs])
      rw [HF.out]
      clear HF
      clear hi hr HO hid2 htk
      clear hs
      go_enter Tryd.func40, Tryd.ntmps40
      go_wp2_with fail
      refine (find_any b rb l id _ hT hg).mono ?_
      rintro e w' ⟨rfl, rfl⟩
      rw [HI.out]
      unfold rrowPtr
      go_wp2_with fail
      go_ret
      have h2 := h1.put 1 { r with state := 4 } (.int .i64 4) (by omega) rfl
      have h3 := h2.put 3 { r with state := 4, value := x } (.int .u64 x) (by omega) rfl
      exact rpost_ok (h3.put 6 { r with state := 4, value := x, stepping := true } (.bool true) (by omega) rfl).2 ((((Keeps.refl _ _).set (by simp) _).set (by simp) _).set (by simp) _)

set_option maxHeartbeats 1000000 in
theorem rleave_any : Calls Tryd.prog 41 #[.pointer (some ⟨b, 0, none⟩), .int .u64 id] w (RTriPost w b rb (leaveF l id)) := by
  cases hi : idx l id with
  | none =>
    have HI := hid hi
    have HF := hid (show leaveF l id = (7, l) by unfold leaveF; rw [hi])
    rw [HF.out]
    clear hi HF
    go_enter Tryd.func41, Tryd.ntmps41
    go_wp2_with fail
    refine (find_any b rb l id _ hT hg).mono ?_
    rintro e w' ⟨rfl, rfl⟩
    rw [HI.out]
    unfold rrowPtr
    go_wp2_with fail
    refine (rno_any 7 _).mono ?_
    rintro e w' ⟨u, rfl, hF, hK⟩
    go_wp2_with fail
    exact bodyPost_ret (v := .tuple #[.int .u64 0, .bool false, u]) (by simp [results, Tryd.results41, go_sem]) rfl (rtri_fail hT (by omega) (by omega) hF hK)
  | some i =>
    obtain ⟨r, hr, htk, hid2⟩ := idx_some hi
    have c2 := hT.cell (j := 2) hr (by omega) rfl
    have c5 := hT.cell (j := 5) hr (by omega) rfl
    have c6 := hT.cell (j := 6) hr (by omega) rfl
    have c7 := hT.cell (j := 7) hr (by omega) rfl
    have f1 := fun j => hT.2.1.frozen j
    have HR := hid hr
    have HO := rowOf_some hr
    have HI := hid hi
    have h1 := hT.start HR.out
    cases hp : r.stepping with
    | false =>
      rw [hp] at c6
      have HF := hid (show leaveF l id = (8, l) by unfold leaveF; rw [hi]; simp [HO, hp])
      rw [HF.out]
      clear HF
      clear hi hr HO hid2 htk
      clear hp
      go_enter Tryd.func41, Tryd.ntmps41
      go_wp2_with fail
      refine (find_any b rb l id _ hT hg).mono ?_
      rintro e w' ⟨rfl, rfl⟩
      rw [HI.out]
      unfold rrowPtr
      go_wp2_with fail
      refine (rno_any 8 _).mono ?_
      rintro e w' ⟨u, rfl, hF, hK⟩
      go_wp2_with fail
      exact bodyPost_ret (v := .tuple #[.int .u64 0, .bool false, u]) (by simp [results, Tryd.results41, go_sem]) rfl (rtri_fail hT (by omega) (by omega) hF hK)
    | true =>
      rw [hp] at c6
      cases hl : r.loose with
      | true =>
        rw [hl] at c5
        have HF := hid (show leaveF l id = (0, l.set i r.free) by unfold leaveF; rw [hi]; simp [HO, hp, hl])
        rw [HF.out]
        clear HF
        clear hi hr HO hid2 htk
        clear hp hl
        go_enter Tryd.func41, Tryd.ntmps41
        go_wp2_with fail
        refine (find_any b rb l id _ hT hg).mono ?_
        rintro e w' ⟨rfl, rfl⟩
        rw [HI.out]
        unfold rrowPtr
        go_wp2_with fail
        have h2 := h1.put 6 { r with stepping := false } (.bool false) (by omega) rfl
        refine (rforget_any b rb _ i { r with stepping := false } _ h2.2 (List.getElem?_set_self h2.1)).mono ?_
        rintro e w' ⟨rfl, hT2, hK2⟩
        rw [List.set_set] at hT2
        go_wp2_with fail
        exact bodyPost_ret (v := .tuple #[.int .u64 r.home, .bool true, .pointer none]) (by simp [results, Tryd.results41, go_sem]) rfl (rtri_ok r.home true hT2 (((Keeps.refl _ _).set (by simp) _).trans hK2))
      | false =>
        rw [hl] at c5
        cases hq : r.reaped with
        | true =>
          rw [hq] at c7
          have HF := hid (show leaveF l id = (0, l.set i r.free) by unfold leaveF; rw [hi]; simp [HO, hp, hq])
          rw [HF.out]
          clear HF
          clear hi hr HO hid2 htk
          clear hp hl hq
          go_enter Tryd.func41, Tryd.ntmps41
          go_wp2_with fail
          refine (find_any b rb l id _ hT hg).mono ?_
          rintro e w' ⟨rfl, rfl⟩
          rw [HI.out]
          unfold rrowPtr
          go_wp2_with fail
          have h2 := h1.put 6 { r with stepping := false } (.bool false) (by omega) rfl
          refine (rforget_any b rb _ i { r with stepping := false } _ h2.2 (List.getElem?_set_self h2.1)).mono ?_
          rintro e w' ⟨rfl, hT2, hK2⟩
          rw [List.set_set] at hT2
          go_wp2_with fail
          exact bodyPost_ret (v := .tuple #[.int .u64 r.home, .bool true, .pointer none]) (by simp [results, Tryd.results41, go_sem]) rfl (rtri_ok r.home true hT2 (((Keeps.refl _ _).set (by simp) _).trans hK2))
        | false =>
          rw [hq] at c7
          have HF := hid (show leaveF l id = (0, l.set i { r with stepping := false }) by unfold leaveF; rw [hi]; simp [HO, hp, hl, hq])
          rw [HF.out]
          clear HF
          clear hi hr HO hid2 htk
          clear hp hl hq
          go_enter Tryd.func41, Tryd.ntmps41
          go_wp2_with fail
          refine (find_any b rb l id _ hT hg).mono ?_
          rintro e w' ⟨rfl, rfl⟩
          rw [HI.out]
          unfold rrowPtr
          go_wp2_with fail
          exact bodyPost_ret (v := .tuple #[.int .u64 0, .bool false, .pointer none]) (by simp [results, Tryd.results41, go_sem]) rfl (rtri_ok 0 false (h1.put 6 { r with stepping := false } (.bool false) (by omega) rfl).2 ((Keeps.refl _ _).set (by simp) _))

end
end Go.Proofs.YtghgfopcnaoaiaaDoor
