/-
  An error of the program's in the heap (api.At, api.Err).
-/
import Derived.Test.YtghgfopcnaoaiaaDoorBase
namespace Go.Proofs.YtghgfopcnaoaiaaDoor
open Go.RowKit

/-- An error in the heap: the layers on its way with their places, the kind behind them. -/
def ErrAt (w : World) : Value → List (ByteArray × Int) → Int → Prop
  | v, [], k => v = .iface 30 (.int .i64 k)
  | v, (l, n) :: r, k => ∃ b u, v = .iface 72 (.pointer (some ⟨b, 0, none⟩)) ∧ Blk w b #[.string l, .int .i64 n, u] 76 ∧ ErrAt w u r k

theorem ErrAt.keeps {w w' : World} (k : Keeps [] w w') {l : List (ByteArray × Int)} {q : Int} : ∀ {v : Value}, ErrAt w v l q → ErrAt w' v l q := by
  induction l with
  | nil => intro v h; exact h
  | cons x l ih =>
    intro v h
    obtain ⟨b, u, hv, hb, hr⟩ := h
    exact ⟨b, u, hv, hb.keeps k (by simp), ih hr⟩

/-- An error of one place, just made. -/
theorem ErrAt.fresh (w : World) (l : ByteArray) (n k : Int) :
    ErrAt (w.alloc (.cells #[.string l, .int .i64 n, .iface 30 (.int .i64 k)] 76)) (.iface 72 (.pointer (some ⟨w.heap.size, 0, none⟩))) [(l, n)] k :=
  ⟨_, _, rfl, Blk.fresh w _ _, rfl⟩

end Go.Proofs.YtghgfopcnaoaiaaDoor
