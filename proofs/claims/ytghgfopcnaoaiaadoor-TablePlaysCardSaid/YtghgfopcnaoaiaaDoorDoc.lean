/-
  The document's errors in the heap (distaffkeep.Fail), No.
-/
import Derived.Test.YtghgfopcnaoaiaaDoorErrAs2
namespace Go.Proofs.YtghgfopcnaoaiaaDoor
open Go.RowKit

/-- The document's answer in the heap: a *Fail with those places and that kind. -/
def FailAt (w : World) (v : Value) (l : List (ByteArray × Int)) (k : Int) : Prop :=
  ∃ (b lb nb c1 c2 : Nat) (sc nc : Array Value), v = .pointer (some ⟨b, 0, none⟩) ∧ Blk w b #[.slice (some ⟨lb, 0, none⟩) l.length c1, .slice (some ⟨nb, 0, none⟩) l.length c2, .int .i64 k] 71 ∧
    Blk w lb sc 9 ∧ Blk w nb nc 3 ∧ ∀ (i : Nat) (x : ByteArray × Int), l[i]? = some x → sc[i]? = some (Value.string x.1) ∧ nc[i]? = some (Value.int .i64 x.2)

theorem FailAt.keeps {w w' : World} (h : Keeps [] w w') {v : Value} {l : List (ByteArray × Int)} {k : Int} (f : FailAt w v l k) : FailAt w' v l k := by
  obtain ⟨b, lb, nb, c1, c2, sc, nc, hv, h1, h2, h3, h4⟩ := f
  exact ⟨b, lb, nb, c1, c2, sc, nc, hv, h1.keeps h (by simp), h2.keeps h (by simp), h3.keeps h (by simp), h4⟩

/-- What the document says of an error: its places, the outermost first, and the kind; none: no error. -/
def DocAt (w : World) (v : Value) : Option (List (ByteArray × Int) × Int) → Prop
  | none => v = .pointer none
  | some (l, k) => FailAt w v l k ∧ l.length ≤ 1000 ∧ 1 ≤ k ∧ k ≤ 10
def ErrV (w : World) (v : Value) : Option (List (ByteArray × Int) × Int) → Prop
  | none => v = .nilIface
  | some (l, k) => ErrAt w v l k

theorem DocAt.keeps {w w' : World} (h : Keeps [] w w') {v : Value} {d : Option (List (ByteArray × Int) × Int)} (f : DocAt w v d) : DocAt w' v d := by
  cases d with
  | none => exact f
  | some x => exact ⟨f.1.keeps h, f.2⟩
theorem ErrV.keeps {w w' : World} (h : Keeps [] w w') {v : Value} {d : Option (List (ByteArray × Int) × Int)} (f : ErrV w v d) : ErrV w' v d := by
  cases d with
  | none => exact f
  | some x => exact ErrAt.keeps h f

def NoPost (w : World) (l : ByteArray) (n k : Int) (e : Ending) (w' : World) : Prop := ∃ v, e = .returned v ∧ FailAt w' v [(l, n)] k ∧ Keeps [] w w'

theorem no_any (l : ByteArray) (n k : Int) (w : World) : Calls Tryd.prog 11 #[.string l, .int .i64 n, .int .i64 k] w (NoPost w l n k) := by
  go_enter Tryd.func11, Tryd.ntmps11
  go_wp2
  go_ret
  refine ⟨_, rfl, ⟨w.heap.size + 2, w.heap.size, w.heap.size + 1, 1, 1, #[.string l], #[.int .i64 n], rfl, Blk.fresh_at (by simp) _ _, ((Blk.fresh_at rfl _ _).alloc _).alloc _, (Blk.fresh_at (by simp) _ _).alloc _, ?_⟩, (((Keeps.refl _ _).alloc _).alloc _).alloc _⟩
  intro i x hx
  match i, hx with
  | 0, hx => simp at hx; subst hx; exact ⟨rfl, rfl⟩
  | i + 1, hx => simp at hx
end Go.Proofs.YtghgfopcnaoaiaaDoor
