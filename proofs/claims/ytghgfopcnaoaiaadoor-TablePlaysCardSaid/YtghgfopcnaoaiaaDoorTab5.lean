/-
  The package table: All.
-/
import Derived.Test.YtghgfopcnaoaiaaDoorTab4
namespace Go.Proofs.YtghgfopcnaoaiaaDoor
open Go.RowKit

/-- The threads of the first k places. -/
def threadsTo (l : List TRow) (k : Nat) : List TRow := (l.take k).filter (·.taken)
def threads (l : List TRow) : List TRow := l.filter (·.taken)

theorem threadsTo_succ {l : List TRow} {k : Nat} {r : TRow} (h : l[k]? = some r) : threadsTo l (k + 1) = if r.taken = true then threadsTo l k ++ [r] else threadsTo l k := by
  unfold threadsTo
  rw [List.take_add_one, h, List.filter_append]
  cases hr : r.taken <;> simp [hr]

theorem threadsTo_le (l : List TRow) (k : Nat) : (threadsTo l k).length ≤ k := by
  unfold threadsTo
  exact Nat.le_trans (List.length_filter_le _ _) (List.length_take_le _ _)

def AllPost (w : World) (l : List TRow) (e : Ending) (w' : World) : Prop :=
  ∃ v, e = .returned v ∧ w'.ownsRow w.heap.size 48 7 v (threads l).length ((threads l).flatMap TRow.thread) ∧ Keeps [] w w'

theorem infoThread : (Tryd.prog.info? 48).map (fun i => (i.zero, i.size, i.bytes)) = some (some (.agg zrow.thread.toArray), 7, 48) := by kernel_rfl

theorem grown_keeps {w w' : World} {v : Value} {W : World} (hg : w.grownBy w' v.ownBlock) (hv : ∀ k, v.ownBlock = some k → W.heap.size ≤ k) (hK : Keeps [] W w) : Keeps [] W w' :=
  ⟨hg.os.trans hK.os, hg.tape.trans hK.tape, hg.output.trans hK.output, Nat.le_trans hK.size hg.size, fun k hk _ =>
    (hg.block k (Nat.lt_of_lt_of_le hk hK.size) (fun e => by have := hv k e.symm; omega)).trans (hK.block k hk (by simp))⟩

set_option maxRecDepth 100000 in
set_option maxHeartbeats 2000000 in
theorem all_any (b rb : Nat) (l : List TRow) (w : World) (hT : TableAt w b rb l) :
    Calls Tryd.prog 13 #[.pointer (some ⟨b, 0, none⟩)] w (AllPost w l) := by
  obtain ⟨i0, hi, hz0, hz1, hz2⟩ := info_parts infoThread
  have hlen := hT.2.2.2
  have c0 := hT.1.cell (i := 0) rfl
  have HT := hid hT
  generalize hL : l.length = n at *
  have HL := hid hL
  clear hL
  go_enter Tryd.func13, Tryd.ntmps13
  go_wp2_with fail
  go_loopw [3, 10] (fun v s wr => ∃ k : Nat, k ≤ n ∧ s = .int .i64 k ∧ wr.ownsRow w.heap.size 48 7 v (threadsTo l k).length ((threadsTo l k).flatMap TRow.thread) ∧ Keeps [] w wr) (fun _ s _ => (n - (intOf s).toNat))
  case atStart => exact ⟨0, by omega, rfl, World.ownsRow_nil _ _ _ _, Keeps.refl _ _⟩
  case round =>
    obtain ⟨k, hk, rfl, hown, hKR⟩ := hrel
    by_cases hlt : k < n
    · obtain ⟨r, hr⟩ : ∃ r, l[k]? = some r := ⟨_, List.getElem?_eq_getElem (by have := HL.out; omega)⟩
      have hTr := HT.out.keeps hKR (by simp) (by simp)
      have d0 := hTr.1.cell (i := 0) rfl
      rw [HL.out] at d0
      have k1 := hTr.cell (j := 1) (v := .bool r.taken) hr (by omega) rfl
      have k3 := hTr.cell (j := 3) hr (by omega) rfl
      have k4 := hTr.cell (j := 4) hr (by omega) rfl
      have k5 := hTr.cell (j := 5) hr (by omega) rfl
      have k6 := hTr.cell (j := 6) hr (by omega) rfl
      have k7 := hTr.cell (j := 7) hr (by omega) rfl
      have k8 := hTr.cell (j := 8) hr (by omega) rfl
      have k9 := hTr.cell (j := 9) hr (by omega) rfl
      have HS := hid (threadsTo_succ hr)
      have hle := threadsTo_le l k
      have HO := hid hown
      have HR := hid hr
      clear hr hown
      cases ht : r.taken with
      | false =>
        rw [ht] at k1
        have HTK := hid ht
        clear ht
        go_wp2_with fail
        go_roundw
        case rel => exact ⟨k + 1, by omega, by go_num, by rw [HS.out, if_neg (by rw [HTK.out]; decide)]; exact HO.out, hKR⟩
        case measure => simp [intOf]; omega
      | true =>
        rw [ht] at k1
        have HTK := hid ht
        clear ht
        go_wp2_with (at_builtin; refine wpList_append_own _ rfl (.tmp 21) (.tmp 30) 32 rfl w.heap.size 48 i0 (.agg zrow.thread.toArray) 7 48 Tryd.underlying32 hi hz0 hz1 hz2 rfl (by decide) _ _ _ rfl (HO.out.alloc _) ⟨wr.heap.size, 0, none⟩ 1 1 r.thread rfl rfl ?c1 ?c2 ?c3 ?c4 ?c5 ?_)
        case c1 => intro j u hu; match j, hu with | 0, hu => simp [TRow.thread] at hu; subst hu; simp [Addr.add] | 1, hu => simp [TRow.thread] at hu; subst hu; simp [Addr.add] | 2, hu => simp [TRow.thread] at hu; subst hu; simp [Addr.add] | 3, hu => simp [TRow.thread] at hu; subst hu; simp [Addr.add] | 4, hu => simp [TRow.thread] at hu; subst hu; simp [Addr.add] | 5, hu => simp [TRow.thread] at hu; subst hu; simp [Addr.add] | 6, hu => simp [TRow.thread] at hu; subst hu; simp [Addr.add] | j + 7, hu => simp [TRow.thread] at hu
        case c2 => intro u hu; simp [TRow.thread] at hu; rcases hu with rfl | rfl | rfl | rfl | rfl | rfl | rfl <;> rfl
        case c3 => unfold maxLen; omega
        case c4 => omega
        case c5 => have := hKR.size; simp; omega
        intro v' w1 hown' hgrow _
        have hK1 : Keeps [] w w1 := grown_keeps hgrow (fun q hq => (HO.out.lt q hq).1) (hKR.alloc _)
        have hx : w1.ownsRow w.heap.size 48 7 v' (threadsTo l (k + 1)).length ((threadsTo l (k + 1)).flatMap TRow.thread) := by
          have e := HS.out
          rw [if_pos HTK.out] at e
          rw [e, List.length_append, List.flatMap_append]
          have e2 : List.flatMap TRow.thread [r] = r.thread := by simp
          rw [e2]
          exact hown'
        have HX := hid hx
        clear hx hown' hgrow
        go_wp2_with fail
        go_roundw
        case rel => exact ⟨k + 1, by omega, by go_num, HX.out, hK1⟩
        case measure => simp [intOf]; omega
    · obtain rfl : k = n := by omega
      go_wp2_with fail
      go_ret
      have e : threadsTo l k = threads l := by unfold threadsTo threads; rw [List.take_of_length_le (by rw [HL.out]; omega)]
      rw [e] at hown
      exact ⟨_, rfl, hown, hKR⟩
end Go.Proofs.YtghgfopcnaoaiaaDoor
