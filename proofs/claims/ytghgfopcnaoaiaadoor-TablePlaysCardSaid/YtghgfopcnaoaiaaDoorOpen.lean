/-
  Arguments that came in, opened to cells: a struct of numbers by value; a slice of structs of numbers, whatever the number of fields; a slice of slices.
-/
import Derived.Test.YtghgfopcnaoaiaaDoorBase
import Derived.Deep.Slices
import Derived.Deep.Fields
import Derived.ChangeSame
import Derived.ProofKit
import Derived.OpenShut
namespace Go.Proofs.YtghgfopcnaoaiaaDoor
open Go.ChangeShapes Go.WideShapes Go.RowKit Go.Deep

section
variable {H : Type} {enc : TypeId × Value → H} {P : Program} {w : World} {base : Nat} {spare : Nat → Bool} {held : Bool}

/-- The kinds of the fields of a struct of numbers. -/
def kindsOf (P : Program) (fs : Array Field) (kd : Nat → IntKind) : Prop := ∀ (j : Nat) (f : Field), fs[j]? = some f → P.underlying f.type = some (.int (kd j))

theorem struct_reads {t : TypeId} {fs : Array Field} {kd : Nat → IntKind} {fuel : Nat} {cs : List Value} {x : DataW H × List MemPlace} (hs : P.underlying t = some (.struct fs)) (hone : oneCellFields P fs = true) (hC : P.cellsOf t = fs.size)
    (hk : kindsOf P fs kd) (h : DataW.trod enc P w base spare held fuel t cs = some x) :
    cs.length = fs.size ∧ ∀ j, j < fs.size → ∃ n, cs[j]? = some (.int (kd j) n) ∧ (Lit.int (kd j) n).wf = true := by
  obtain ⟨xs, n, _, _, hlen, hxl, hf⟩ := DataW.trod_struct hs h
  rw [hC] at hlen
  refine ⟨hlen, fun j hj => ?_⟩
  obtain ⟨f, hfj⟩ : ∃ f, fs[j]? = some f := ⟨_, Array.getElem?_eq_getElem hj⟩
  obtain ⟨ho, hc⟩ := hone_of hone j f hfj
  have hr := hf j f hfj
  rw [ho, hc, List.getElem?_eq_getElem (by omega)] at hr
  obtain ⟨q, hq, _, hw⟩ := DataW.trod_int (hk j f hfj) hr
  refine ⟨q, ?_, hw⟩
  have h0 : ((cs.drop j).take 1)[0]? = some (Value.int (kd j) q) := by rw [hq]; rfl
  rw [List.getElem?_take, if_pos (by omega), List.getElem?_drop, Nat.add_zero] at h0
  exact h0

/-- A struct of numbers by value. -/
theorem agg_reads {t : TypeId} {fs : Array Field} {kd : Nat → IntKind} {r : Reach} {b0 : Nat} {v : Value} {d : DataW H} {p : List MemPlace} (hs : P.underlying t = some (.struct fs)) (hone : oneCellFields P fs = true) (hC : P.cellsOf t = fs.size)
    (hk : kindsOf P fs kd) (hv : Value.okWide P w r b0 t v) (h : DataW.Trod enc P w base spare held t v d p) :
    ∃ cs : Array Value, v = .agg cs ∧ cs.size = fs.size ∧ ∀ j, j < fs.size → ∃ n, cs[j]? = some (.int (kd j) n) ∧ (Lit.int (kd j) n).wf = true := by
  obtain ⟨cs, rfl, hsz⟩ := okWide_struct hs hv
  obtain ⟨fuel, hf⟩ := h
  obtain ⟨_, hr⟩ := struct_reads hs hone hC hk hf
  exact ⟨cs, rfl, hsz.trans hC, fun j hj => by simpa [Value.cells] using hr j hj⟩

/-- A slice of structs of numbers (n fields of the kinds kd): the fields of element i are F i 0, F i 1 .. -/
def OpsIn (kd : Nat → IntKind) (n : Nat) (w : World) (a : Option Addr) (len cap : Nat) (F : Nat → Nat → Int) : Prop :=
  len ≤ maxLen ∧ ((a = none ∧ len = 0 ∧ cap = 0) ∨
  ∃ x, a = some x ∧ ∀ i, i < len → ∀ j, j < n → w.cell? (x.add (i * n + j)) = some (.int (kd j) (F i j)) ∧ (Lit.int (kd j) (F i j)).wf = true)

theorem slice_reads {t e : TypeId} {fs : Array Field} {kd : Nat → IntKind} {fuel : Nat} {a : Option Addr} {len cap : Nat} {x : DataW H × List MemPlace} (ht : P.underlying t = some (.slice e)) (hs : P.underlying e = some (.struct fs))
    (hone : oneCellFields P fs = true) (hC : P.cellsOf e = fs.size) (hk : kindsOf P fs kd) (h : DataW.trod enc P w base spare held fuel t [.slice a len cap] = some x) :
    ∃ F, OpsIn kd fs.size w a len cap F := by
  rcases open_slice ht h with ⟨hcs, _⟩ | ⟨q, l, c, m, n, D, Pl, hcs, _, hl, hm, hmm, _, hi⟩
  · simp at hcs
    obtain ⟨rfl, rfl, rfl⟩ := hcs
    exact ⟨fun _ _ => 0, Nat.zero_le _, .inl ⟨rfl, rfl, rfl⟩⟩
  · simp at hcs
    obtain ⟨rfl, rfl, rfl⟩ := hcs
    have hle : len ≤ m := by rw [hmm]; split <;> omega
    have key : ∀ i j, ∃ z : Int, i < len → j < fs.size → w.cell? (q.add (i * fs.size + j)) = some (.int (kd j) z) ∧ (Lit.int (kd j) z).wf = true := by
      intro i j
      by_cases hh : i < len ∧ j < fs.size
      · obtain ⟨cs', hc, ht'⟩ := hi i (by omega)
        rw [hC] at hc
        obtain ⟨_, hcl, hat⟩ := World.cells?_some hc
        obtain ⟨z, hz, hw⟩ := (struct_reads hs hone hC hk ht').2 j hh.2
        refine ⟨z, fun _ _ => ⟨?_, hw⟩⟩
        rw [← Go.Deep.add_add, hat j hh.2, hz]
      · exact ⟨0, fun h1 h2 => absurd ⟨h1, h2⟩ hh⟩
    refine ⟨fun i j => Classical.choose (key i j), by omega, .inr ⟨q, rfl, fun i hil j hj => Classical.choose_spec (key i j) hil hj⟩⟩

/-- The elements of such a slice where there are any. -/
theorem OpsIn.elems {kd : Nat → IntKind} {n : Nat} {w : World} {a : Option Addr} {len cap : Nat} {F : Nat → Nat → Int} (h : OpsIn kd n w a len cap F) (hp : 0 < len) (hn : 0 < n) :
    ∃ xb xo, a = some ⟨xb, xo, none⟩ ∧ xb < w.heap.size ∧ ∀ i, i < len → ∀ j, j < n → w.cell? ⟨xb, xo + (i * n + j), none⟩ = some (.int (kd j) (F i j)) := by
  rcases h with ⟨_, ⟨_, h, _⟩ | ⟨x, rfl, hc⟩⟩
  · omega
  · obtain ⟨b, off, spot⟩ := x
    have h0 := (hc 0 hp 0 hn).1
    have hspot : spot = none := by simpa [Addr.add] using World.cell?_spot h0
    subst hspot
    refine ⟨b, off, rfl, World.block_lt_of_cell? _ _ (by simpa [Addr.add] using h0), fun i hi j hj => ?_⟩
    rw [← Go.WideShapes.add_plain]
    exact (hc i hi j hj).1

theorem OpsIn.wf {kd : Nat → IntKind} {n : Nat} {w : World} {a : Option Addr} {len cap : Nat} {F : Nat → Nat → Int} (h : OpsIn kd n w a len cap F) {i j : Nat} (hi : i < len) (hj : j < n) : (Lit.int (kd j) (F i j)).wf = true := by
  rcases h with ⟨_, ⟨_, h, _⟩ | ⟨x, rfl, hc⟩⟩
  · omega
  · exact (hc i hi j hj).2

end
end Go.Proofs.YtghgfopcnaoaiaaDoor
