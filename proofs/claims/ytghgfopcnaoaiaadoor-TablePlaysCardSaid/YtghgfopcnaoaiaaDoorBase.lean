/-
  Small words on memory: a block that is known whole ('Blk'); what a call may have written ('Keeps S': no old block but those of S).
-/
import Derived.Test.YtghgfopcnaoaiaaDoorRows
import Derived.WalkKit
import Derived.WalkSpells
import Derived.WalkLawsBesides
import Derived.Deep.Draws
namespace Go.Proofs.YtghgfopcnaoaiaaDoor
open Go.RowKit

/-- A fact put out of the walk's sight. -/
theorem hid {p : Prop} (h : p) : Hid p := h

/-- Block b is a row of cells, none of them frozen. -/
def Blk (w : World) (b : Nat) (c : Array Value) (t : TypeId) : Prop := w.heap[b]? = some (.cells c t (0, 0))

/-- Of the old blocks none has been written but those of S. -/
structure Keeps (S : List Nat) (w w' : World) : Prop where
  os : w'.os = w.os
  tape : w'.tape = w.tape
  output : w'.output = w.output
  size : w.heap.size ≤ w'.heap.size
  block : ∀ k, k < w.heap.size → k ∉ S → w'.heap[k]? = w.heap[k]?

theorem Blk.lt {w : World} {b : Nat} {c : Array Value} {t : TypeId} (h : Blk w b c t) : b < w.heap.size := by
  rcases Nat.lt_or_ge b w.heap.size with h1 | h1
  · exact h1
  · unfold Blk at h
    rw [Array.getElem?_eq_none h1] at h
    cases h

theorem Blk.cell {w : World} {b : Nat} {c : Array Value} {t : TypeId} (h : Blk w b c t) {i : Nat} {v : Value} (hv : c[i]? = some v) : w.cell? ⟨b, i, none⟩ = some v := by
  unfold Blk at h
  simp [World.cell?, h, hv]

theorem Blk.frozen {w : World} {b : Nat} {c : Array Value} {t : TypeId} (h : Blk w b c t) (i : Nat) : w.frozen? ⟨b, i, none⟩ = false := by
  unfold Blk at h
  simp [World.frozen?, h]

theorem lt_of_cell {w : World} {p : Addr} {v : Value} (h : w.cell? p = some v) : p.block < w.heap.size := World.block_lt_of_cell? _ _ h

theorem Blk.set {w : World} {b : Nat} {c : Array Value} {t : TypeId} (h : Blk w b c t) (i : Nat) (v : Value) : Blk (w.setCell ⟨b, i, none⟩ v) b (c.setIfInBounds i v) t := by
  unfold Blk at h ⊢
  simp only [World.setCell, Array.getElem?_modify, if_true, h]
  simp

theorem Blk.other {w : World} {b : Nat} {c : Array Value} {t : TypeId} (h : Blk w b c t) {a : Addr} (ha : a.block ≠ b) (v : Value) : Blk (w.setCell a v) b c t := by
  unfold Blk at h ⊢
  rw [Below.heap_setCell _ _ _ _ (Ne.symm ha)]
  exact h

theorem Blk.alloc {w : World} {b : Nat} {c : Array Value} {t : TypeId} (h : Blk w b c t) (o : Obj) : Blk (w.alloc o) b c t := by
  have hl := h.lt
  unfold Blk at h ⊢
  rw [Below.heap_alloc _ _ _ hl]
  exact h

theorem Blk.fresh (w : World) (c : Array Value) (t : TypeId) : Blk (w.alloc (.cells c t)) w.heap.size c t := by
  unfold Blk
  show (w.heap.push _)[w.heap.size]? = _
  simp

theorem Blk.fresh_at {w : World} {n : Nat} (h : n = w.heap.size) (c : Array Value) (t : TypeId) : Blk (w.alloc (.cells c t)) n c t := h ▸ Blk.fresh w c t

theorem Blk.drew {w : World} {b : Nat} {c : Array Value} {t : TypeId} (h : Blk w b c t) : Blk w.drew b c t := h
theorem Blk.drewN {w : World} {b : Nat} {c : Array Value} {t : TypeId} (h : Blk w b c t) (n : Nat) : Blk (w.drewN n) b c t := h

theorem Keeps.refl (S : List Nat) (w : World) : Keeps S w w := ⟨rfl, rfl, rfl, Nat.le_refl _, fun _ _ _ => rfl⟩

theorem Keeps.mono {S T : List Nat} {w w' : World} (h : Keeps S w w') (hs : ∀ x, x ∈ S → x ∈ T) : Keeps T w w' :=
  ⟨h.os, h.tape, h.output, h.size, fun k hk hn => h.block k hk (fun hx => hn (hs k hx))⟩

theorem Keeps.trans {S : List Nat} {a b c : World} (h : Keeps S a b) (k : Keeps S b c) : Keeps S a c :=
  ⟨k.os.trans h.os, k.tape.trans h.tape, k.output.trans h.output, Nat.le_trans h.size k.size, fun i hi hn => (k.block i (Nat.lt_of_lt_of_le hi h.size) hn).trans (h.block i hi hn)⟩

theorem Keeps.drew {S : List Nat} {a w : World} (h : Keeps S a w) : Keeps S a w.drew := ⟨h.os, h.tape, h.output, h.size, h.block⟩
theorem Keeps.drewN {S : List Nat} {a w : World} (h : Keeps S a w) (n : Nat) : Keeps S a (w.drewN n) := ⟨h.os, h.tape, h.output, h.size, h.block⟩

theorem Keeps.alloc {S : List Nat} {a w : World} (h : Keeps S a w) (o : Obj) : Keeps S a (w.alloc o) :=
  h.trans ⟨rfl, rfl, rfl, by simp, fun k hk _ => Below.heap_alloc _ _ _ hk⟩

/-- A store into a block of S. -/
theorem Keeps.set {S : List Nat} {a w : World} (h : Keeps S a w) {p : Addr} (hp : p.block ∈ S) (u : Value) : Keeps S a (w.setCell p u) :=
  h.trans ⟨rfl, rfl, rfl, by simp, fun k _ hn => Below.heap_setCell _ _ _ _ (fun e => hn (e ▸ hp))⟩

/-- A store into a block that was not there when the call began. -/
theorem Keeps.own {S : List Nat} {a w : World} (h : Keeps S a w) {p : Addr} (hp : a.heap.size ≤ p.block) (u : Value) : Keeps S a (w.setCell p u) :=
  ⟨h.os, h.tape, h.output, by simpa using h.size, fun k hk hn => (Below.heap_setCell _ _ _ _ (by omega)).trans (h.block k hk hn)⟩

/-- Blocks that were not there need not be named. -/
theorem Keeps.drop {S T : List Nat} {a b c : World} (h : Keeps S a b) (k : Keeps T b c) (hT : ∀ x, x ∈ T → x ∈ S ∨ a.heap.size ≤ x) : Keeps S a c :=
  ⟨k.os.trans h.os, k.tape.trans h.tape, k.output.trans h.output, Nat.le_trans h.size k.size, fun i hi hn =>
    (k.block i (Nat.lt_of_lt_of_le hi h.size) (fun hx => (hT i hx).elim hn (fun h1 => by omega))).trans (h.block i hi hn)⟩

theorem Keeps.below {B : Nat} {S : List Nat} {w w' : World} (h : Keeps S w w') (hB : B ≤ w.heap.size) (hS : ∀ x, x ∈ S → B ≤ x) : Below B w w' :=
  ⟨h.os, h.tape, h.output, h.size, fun k hk => h.block k (Nat.lt_of_lt_of_le hk hB) (fun hx => by have := hS k hx; omega)⟩

theorem Blk.keeps {S : List Nat} {w w' : World} {b : Nat} {c : Array Value} {t : TypeId} (h : Blk w b c t) (k : Keeps S w w') (hb : b ∉ S) : Blk w' b c t := by
  have hl := h.lt
  unfold Blk at h ⊢
  rw [k.block b hl hb]
  exact h

theorem Blk.below {B : Nat} {w w' : World} {b : Nat} {c : Array Value} {t : TypeId} (h : Blk w b c t) (k : Below B w w') (hb : b < B) : Blk w' b c t := by
  unfold Blk at h ⊢
  rw [k.block b hb]
  exact h

theorem Keeps.cell {S : List Nat} {w w' : World} (k : Keeps S w w') {p : Addr} (hp : p.block < w.heap.size) (hn : p.block ∉ S) : w'.cell? p = w.cell? p := World.cell?_of_block (w := w) (k.block p.block hp hn)

/-- A row of numbers, as cells. -/
def ints (k : IntKind) (l : List Int) : Array Value := (l.map (Value.int k)).toArray

theorem ints_get {k : IntKind} {l : List Int} {i : Nat} (h : i < l.length) : (ints k l)[i]? = some (.int k (l.getD i 0)) := by
  simp [ints, List.getD, h]

theorem ints_set (k : IntKind) (l : List Int) (i : Nat) (v : Int) : (ints k l).setIfInBounds i (.int k v) = ints k (l.set i v) := by
  simp [ints, List.map_set]

theorem ints_size (k : IntKind) (l : List Int) : (ints k l).size = l.length := by simp [ints]

end Go.Proofs.YtghgfopcnaoaiaaDoor
