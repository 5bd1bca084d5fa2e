/-
  MemApart: an access of one cell changes no other one: for every input the call returns true, and each argument reads afterwards as it read before. No condition.
-/
import Derived.Test.YtmciclhifcjoiaaMemApartWalk
import Derived.Test.YtmciclhifcjoiaaOpen
import Derived.Test.YtmciclhifcjoiaaRowIn
import Derived.WalkKit
import Derived.ProofKit
import Derived.OpenShut
import Derived.ShutString
import Derived.ChangeOld
import Derived.Below
namespace Go.Proofs.Ytmciclhifcjoiaa.memApart
open Go.ChangeShapes Go.WideShapes Go.ChangeAt Go.RowKit Go.Deep
set_option linter.unusedVariables false

theorem own : ownKnob Try.prog.godebug = none := by kernel_rfl
theorem laidOut : laidOutB Try.prog = true := by kernel_rfl
def kd1 : Nat → IntKind := fun j => [IntKind.i64, IntKind.i64, IntKind.i64, IntKind.i64, IntKind.u64, IntKind.u64, IntKind.u64].getD j .i64
theorem kinds1 : ∃ fs : Array Field, Try.prog.underlying 41 = some (.struct fs) ∧ oneCellFields Try.prog fs = true ∧ Try.prog.cellsOf 41 = fs.size ∧ fs.size = 7 ∧ kindsOf Try.prog fs kd1 := by
  refine ⟨_, Try.underlying41, by kernel_rfl, by kernel_rfl, rfl, ?_⟩
  intro j f hj
  match j, hj with
  | 0, hj => simp at hj; subst hj; exact Try.underlying3
  | 1, hj => simp at hj; subst hj; exact Try.underlying3
  | 2, hj => simp at hj; subst hj; exact Try.underlying3
  | 3, hj => simp at hj; subst hj; exact Try.underlying3
  | 4, hj => simp at hj; subst hj; exact Try.underlying22
  | 5, hj => simp at hj; subst hj; exact Try.underlying22
  | 6, hj => simp at hj; subst hj; exact Try.underlying22
  | j + 7, hj => simp at hj

set_option maxRecDepth 100000 in
theorem lifted (os : Os) (started : os.Started) (H : Type) (enc : TypeId × Value → H) :
    ReturnsInHanded {} Try.checked os 5 .any (Rows.memApartSpec.pre6 enc Try.prog Try.f5 Rows.memApartRow.domain false) (Rows.memApartSpec.post enc Try.prog Try.f5 false true false false) := by
  refine returnsInHanded_of_change (C := Try.checked) own started (by kernel_rfl) Try.func5
    (ChangeSpec.witness6 (enc := enc) (C := Try.checked) false ⟨#[], #[.slice none 0 0, .agg #[.int .i64 0, .int .i64 0, .int .i64 0, .int .i64 0, .int .u64 0, .int .u64 0, .int .u64 0]], []⟩ 8 (by kernel_rfl) (by kernel_rfl) (by kernel_rfl) (by kernel_rfl)) ?_
  intro W base args ds gs before hval0 hW hcnd _
  have hval : ∀ (j : Nat) t v, Try.f5.params[j]? = some t → args[j]? = some v → Value.okWide Try.prog W .any base t v := hval0
  have hW' := hW
  obtain ⟨p, q, hA0, hV, rfl, hfz, hnd⟩ := hW
  have hA : DataW.TrodAll enc Try.prog W 0 (fun _ => true) true Try.f5.params.toList args.toList ds p := hA0
  rw [Try.params5] at hA hval
  obtain ⟨v0, vs0, d0, ds0, p0, q0, hargs, rfl, rfl, h0, r0⟩ := trodAll_cons hA
  obtain ⟨v1, vs1, d1, ds1, p1, q1, rfl, rfl, rfl, h1, r1⟩ := trodAll_cons r0
  obtain ⟨rfl, rfl, rfl⟩ := trodAll_nil r1
  obtain rfl : args = #[v0, v1] := by cases args; simp_all
  obtain ⟨rfl, rfl⟩ := trodVars_none hV
  obtain ⟨a0, len0, cap0, rfl⟩ := okWide_slice Try.underlying23 (hval 0 23 v0 rfl rfl)
  have k0 := h0
  have lt0 : ∀ x ∈ p0, x.block < W.heap.size := by obtain ⟨m, hm⟩ := k0; exact DataW.trod_lt m _ _ _ hm
  obtain ⟨z0, w0⟩ : ∃ zs, RowIn' .u64 W a0 len0 cap0 zs := by
    obtain ⟨fuel, hf⟩ := h0
    rcases open_ints Try.underlying23 Try.underlying22 (by kernel_rfl) hf with ⟨hcs, _⟩ | ⟨x, l, c, zs, hcs, _, hl, hm, hz, _, hcell, hwz⟩
    · simp [Value.cells] at hcs
      obtain ⟨rfl, rfl, rfl⟩ := hcs
      exact ⟨[], .inl ⟨rfl, rfl, rfl, rfl⟩⟩
    · simp [Value.cells] at hcs
      obtain ⟨rfl, rfl, rfl⟩ := hcs
      exact ⟨zs, .inr ⟨_, rfl, hl, hm, by simpa using hz, hcell, hwz⟩⟩
  have k1 := h1
  have lt1 : ∀ x ∈ p1, x.block < W.heap.size := by obtain ⟨m, hm⟩ := k1; exact DataW.trod_lt m _ _ _ hm
  obtain ⟨c1, rfl, cs1, w1⟩ : ∃ cs : Array Value, v1 = .agg cs ∧ cs.size = 7 ∧ ∀ j, j < 7 → ∃ n, cs[j]? = some (.int (kd1 j) n) ∧ (Lit.int (kd1 j) n).wf = true := by
    obtain ⟨fs, hs, hone, hC, hn, hk⟩ := kinds1
    obtain ⟨cs, h1, h2, h3⟩ := agg_reads hs hone hC hk (hval 1 41 v1 rfl rfl) h1
    rw [hn] at h2 h3
    exact ⟨cs, h1, h2, h3⟩
  obtain ⟨a1_0, e1_0, w1_0⟩ := w1 0 (by omega)
  obtain ⟨a1_1, e1_1, w1_1⟩ := w1 1 (by omega)
  obtain ⟨a1_2, e1_2, w1_2⟩ := w1 2 (by omega)
  obtain ⟨a1_3, e1_3, w1_3⟩ := w1 3 (by omega)
  obtain ⟨a1_4, e1_4, w1_4⟩ := w1 4 (by omega)
  obtain ⟨a1_5, e1_5, w1_5⟩ := w1 5 (by omega)
  obtain ⟨a1_6, e1_6, w1_6⟩ := w1 6 (by omega)
  obtain rfl : c1 = #[.int .i64 a1_0, .int .i64 a1_1, .int .i64 a1_2, .int .i64 a1_3, .int .u64 a1_4, .int .u64 a1_5, .int .u64 a1_6] := by
    apply Array.ext_getElem?
    intro i
    match i with
    | 0 => exact e1_0
    | 1 => exact e1_1
    | 2 => exact e1_2
    | 3 => exact e1_3
    | 4 => exact e1_4
    | 5 => exact e1_5
    | 6 => exact e1_6
    | i + 7 => rw [Array.getElem?_eq_none (by omega)]; rfl
  clear hA0 hval0
  refine (Go.Proofs.Ytmciclhifcjoiaa.memApart_walk a0 len0 cap0 z0 a1_0 a1_1 a1_2 a1_3 a1_4 a1_5 a1_6 W w0 w1_0 w1_1 w1_2 w1_3 w1_4 w1_5 w1_6).mono fun e W' ⟨he, bel⟩ => ?_
  subst he
  exact ⟨_, rfl, _, _, _, [], _, [], hW', trodAll_mk1 (shut_bool Try.underlying4 _), (trodAll_cons_mk (Below.trod laidOut (by kernel_rfl) (of_decide_eq_true (by kernel_rfl)) k0 bel lt0) (trodAll_cons_mk (Below.trod laidOut (by kernel_rfl) (of_decide_eq_true (by kernel_rfl)) k1 bel lt1) trodAll_mk0)), rfl, bel.frame _, fun h => by cases h⟩

theorem over : Rows.memApartRow.holds Try.pinned (OpenSpec.ofChange Rows.memApartSpec) :=
  OpenClaim.holds_of_wide 5 Try.f5 rfl rfl rfl rfl rfl rfl rfl ⟨rfl, rfl, rfl, rfl, rfl⟩ rfl rfl rfl rfl rfl (by kernel_rfl) Try.func5 (by kernel_rfl)
    (of_decide_eq_true (by kernel_rfl)) (by unfold Func.isWrapper; first | (rw [if_pos (by decide +kernel)]; kernel_rfl) | (rw [if_neg (by decide +kernel)]; exact ⟨rfl, rfl⟩))
    (fun os started H enc _ => lifted os started H enc)

theorem proved : Rows.MemApartSaid := over
#print axioms proved
end Go.Proofs.Ytmciclhifcjoiaa.memApart
