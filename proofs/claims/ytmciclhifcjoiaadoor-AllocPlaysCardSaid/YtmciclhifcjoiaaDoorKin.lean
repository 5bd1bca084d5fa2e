/-
  distaffkeep.In: a layer put ahead of an error of one layer.
-/
import Derived.Test.YtmciclhifcjoiaaDoorRef03a
namespace Go.Proofs.YtmciclhifcjoiaaDoor
open Go.RowKit

theorem kin_none (l : ByteArray) (n : Int) (w : World) : Calls Tryd.prog 61 #[.string l, .int .i64 n, .pointer none] w fun e w' => e = .returned (.pointer none) ∧ w = w' := by
  go_enter Tryd.func61, Tryd.ntmps61
  go_wp2
  go_ret
  exact ⟨rfl, rfl⟩

theorem app_two (x y : Value) (c : Array Value) : (#[x, y] ++ c)[0]? = some x ∧ (#[x, y] ++ c)[1]? = some y := by
  constructor <;> simp [Array.getElem?_append]
theorem failAt_two {W : World} {b lb nb c1 c2 : Nat} {sc nc : Array Value} {l l0 : ByteArray} {n n0 k : Int}
    (h1 : Blk W b #[.slice (some ⟨lb, 0, none⟩) 2 c1, .slice (some ⟨nb, 0, none⟩) 2 c2, .int .i64 k] 92)
    (h2 : Blk W lb sc 9) (h3 : Blk W nb nc 3) (h4 : sc[0]? = some (.string l) ∧ sc[1]? = some (.string l0)) (h5 : nc[0]? = some (.int .i64 n) ∧ nc[1]? = some (.int .i64 n0)) :
    FailAt W (.pointer (some ⟨b, 0, none⟩)) [(l, n), (l0, n0)] k := by
  refine ⟨b, lb, nb, c1, c2, sc, nc, rfl, h1, h2, h3, ?_⟩
  intro i x hx
  match i, hx with
  | 0, hx => simp at hx; subst hx; exact ⟨h4.1, h5.1⟩
  | 1, hx => simp at hx; subst hx; exact ⟨h4.2, h5.2⟩
  | i + 2, hx => simp at hx
theorem old_alloc {w : World} {b i : Nat} {v : Value} (o : Obj) (h : w.cell? ⟨b, i, none⟩ = some v) : (w.alloc o).cell? ⟨b, i, none⟩ = some v :=
  (((Keeps.refl [] w).alloc o).cell (p := ⟨b, i, none⟩) (lt_of_cell h) (by simp)).trans h
theorem old_drew {w : World} {b i : Nat} {v : Value} (h : w.cell? ⟨b, i, none⟩ = some v) : w.drew.cell? ⟨b, i, none⟩ = some v := h

set_option maxRecDepth 100000 in
set_option maxHeartbeats 2000000 in
theorem kin_one (l : ByteArray) (n : Int) (v : Value) (l0 : ByteArray) (n0 k : Int) (w : World) (hF : FailAt w v [(l0, n0)] k) :
    Calls Tryd.prog 61 #[.string l, .int .i64 n, v] w fun e w' => ∃ u, e = .returned u ∧ FailAt w' u [(l, n), (l0, n0)] k ∧ Keeps [] w w' := by
  obtain ⟨b, lb, nb, k1, k2, sc, nc, rfl, hb, hlb, hnb, hall⟩ := hF
  obtain ⟨hs0, hn0⟩ := hall 0 (l0, n0) rfl
  have c0 := hb.cell (i := 0) rfl
  have c1 := hb.cell (i := 1) rfl
  have c2 := hb.cell (i := 2) rfl
  have e0 := hlb.cell (i := 0) hs0
  have e1 := hnb.cell (i := 0) hn0
  have t0 := hb.lt
  have t1 := hlb.lt
  have t2 := hnb.lt
  clear hb hlb hnb hall hs0 hn0
  simp only [List.length_singleton] at c0 c1
  go_enter Tryd.func61, Tryd.ntmps61
  go_wp2_with fail
  go_region_held3 (fun W => W.cell? ⟨b, 0, none⟩ = some (.slice (some ⟨lb, 0, none⟩) 1 k1) ∧ W.cell? ⟨b, 1, none⟩ = some (.slice (some ⟨nb, 0, none⟩) 1 k2) ∧ W.cell? ⟨b, 2, none⟩ = some (.int .i64 k) ∧ W.cell? ⟨lb, 0, none⟩ = some (.string l0) ∧ W.cell? ⟨nb, 0, none⟩ = some (.int .i64 n0)) (refine ⟨?_, ?_, ?_, ?_, ?_⟩ <;> repeat (first | assumption | apply old_drew | apply old_alloc)) (fail)
  all_goals
    go_wp2_with fail
    go_ret
    refine ⟨_, rfl, ?_, ?_⟩
    · apply failAt_two
      case h1 => repeat (first | exact Blk.fresh_at (by simp) _ _ | apply Blk.drew | apply Blk.alloc)
      case h2 => repeat (first | exact Blk.fresh_at (by simp) _ _ | apply Blk.drew | apply Blk.alloc)
      case h3 => repeat (first | exact Blk.fresh_at (by simp) _ _ | apply Blk.drew | apply Blk.alloc)
      case h4 => exact app_two _ _ _
      case h5 => exact app_two _ _ _
    · repeat (first | exact Keeps.refl _ _ | apply Keeps.drew | apply Keeps.alloc)
end Go.Proofs.YtmciclhifcjoiaaDoor
