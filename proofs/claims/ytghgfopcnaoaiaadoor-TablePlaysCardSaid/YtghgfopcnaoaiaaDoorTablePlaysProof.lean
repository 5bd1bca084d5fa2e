/-
  Whoever is born, joined, let loose, ends, leaves and is reaped: answers and all threads are what the document says (P11.1, P11.2), for every number of places and every script.
-/
import Derived.Test.YtghgfopcnaoaiaaDoorTablePlaysWalk
import Derived.Test.YtghgfopcnaoaiaaDoorOpen
import Derived.Test.YtghgfopcnaoaiaaDoorRowIn
import Derived.WalkKit
import Derived.ProofKit
import Derived.OpenShut
import Derived.ShutString
import Derived.ChangeOld
import Derived.Below
import Derived.Test.YtghgfopcnaoaiaaDoorTie
import Derived.Test.YtghgfopcnaoaiaaDoorCards
import Derived.ChangeSame
import Derived.ChangeVars
import Derived.JoinedOf
import Derived.RowKit
import Derived.RowKitTokens
import Derived.LaidLaws
import Derived.LaidHandle
import Derived.Stop.Joined
import Derived.SevenTiedAt
namespace Go.Proofs.YtghgfopcnaoaiaaDoor.tablePlays
open Go.ChangeShapes Go.WideShapes Go.ChangeAt Go.RowKit Go.Deep
set_option linter.unusedVariables false

theorem own : ownKnob Tryd.prog.godebug = none := by kernel_rfl
theorem laidOut : laidOutB Tryd.prog = true := by kernel_rfl
def kd1 : Nat → IntKind := fun j => [IntKind.i64, IntKind.i64, IntKind.u64, IntKind.u64, IntKind.i64].getD j .i64
theorem kinds1 : ∃ fs : Array Field, Tryd.prog.underlying 42 = some (.struct fs) ∧ oneCellFields Tryd.prog fs = true ∧ Tryd.prog.cellsOf 42 = fs.size ∧ fs.size = 5 ∧ kindsOf Tryd.prog fs kd1 := by
  refine ⟨_, Tryd.underlying42, by kernel_rfl, by kernel_rfl, rfl, ?_⟩
  intro j f hj
  match j, hj with
  | 0, hj => simp at hj; subst hj; exact Tryd.underlying3
  | 1, hj => simp at hj; subst hj; exact Tryd.underlying3
  | 2, hj => simp at hj; subst hj; exact Tryd.underlying34
  | 3, hj => simp at hj; subst hj; exact Tryd.underlying34
  | 4, hj => simp at hj; subst hj; exact Tryd.underlying3
  | j + 5, hj => simp at hj

theorem et : Tryd.prog.globalNamed "errors.errorType" = some 0 := by kernel_rfl
theorem rt : (Tryd.prog.cutTypes.find? (·.1 == "internal/reflectlite.rtype")).map (·.2) = some 113 := by kernel_rfl
theorem oneRow : ((List.range 158).filter fun t => Tryd.prog.rowNamed t [101, 114, 114, 111, 114]) = [24] := by kernel_rfl
theorem size : Tryd.prog.types.size = 158 := by kernel_rfl
/-- What the condition gives a walk: the variable's one cell. -/
theorem handle_of_laid {W : World} (h : laidMetH Tryd.prog Rows.tablePlaysRow.laid W) : W.cell? ⟨0, 0, none⟩ = some (.iface 113 (.agg #[.pointer (some ⟨1, 24, none⟩)])) := by
  have h' : laidMet Tryd.prog [] W ∧ handlesMet Tryd.prog Rows.tablePlaysRow.laid W := h
  obtain ⟨name, u, ty, e1, e2, e3, e4, e5⟩ := h'.2 _ (List.mem_singleton.2 rfl)
  have en : name = [101, 114, 114, 111, 114] := (Option.some.inj e1).symm
  subst en
  obtain rfl := Option.some.inj (rt.symm.trans e2)
  have hm : ty ∈ (List.range 158).filter fun t => Tryd.prog.rowNamed t [101, 114, 114, 111, 114] := List.mem_filter.2 ⟨List.mem_range.2 (by rw [← size]; exact e3), e4⟩
  rw [oneRow] at hm
  obtain rfl := List.mem_singleton.1 hm
  have hh : typeHandle Tryd.prog 24 = .pointer (some ⟨1, 24, none⟩) := by kernel_rfl
  rw [hh] at e5
  simpa using World.var?_cell et e5 0
/-- A world that meets the condition. -/
noncomputable def laidWorld (os : Os) : World :=
  let w0 := World.holding Tryd.prog os ⟨#[], #[], []⟩
  { w0 with heap := w0.heap.modify 0 fun
      | .cells _ t frozen => .cells #[.iface 113 (.agg #[.pointer (some ⟨1, 24, none⟩)])] t frozen
      | o => o }
theorem laidWorld_met (os : Os) (args : Array Value) : laidMetH Tryd.prog Rows.tablePlaysRow.laid ((laidWorld os).forCall (fun _ _ => 0) ⟨#[], args, []⟩).memory :=
  laidMetH_of_parts (laidMet_nil _ _) (by kernel_rfl)

set_option maxRecDepth 100000 in
theorem lifted (os : Os) (started : os.Started) (H : Type) (enc : TypeId × Value → H) :
    ReturnsInHanded {} Tryd.checked os 8 .any (fun w args => (Rows.tablePlaysSpec.pre enc Tryd.prog Tryd.f8 [] false w args ∧ laidMetH Tryd.prog Rows.tablePlaysRow.laid w) ∧ sizedMet enc Tryd.prog Tryd.f8 (OpenSpec.ofChange Rows.tablePlaysSpec) false w args)
      (Rows.tablePlaysSpec.post enc Tryd.prog Tryd.f8 false true false false) := by
  refine returnsInHanded_of_change_and (C := Tryd.checked) (X := fun w _ => laidMetH Tryd.prog Rows.tablePlaysRow.laid w) (fun _ _ _ hh h => h.of_heap hh) own started (by kernel_rfl) Tryd.func8
    (ChangeSpec.witness_at (enc := enc) (C := Tryd.checked) (os := os) (X := fun w _ => laidMetH Tryd.prog Rows.tablePlaysRow.laid w) false (laidWorld os) #[.int .i64 0, .slice none 0 0] 8 rfl (by kernel_rfl) (by kernel_rfl) (by kernel_rfl) (by kernel_rfl) (by kernel_rfl) (laidWorld_met os _)) ?_
  intro W base args ds gs before hval0 hW hcnd _ hL _
  have hval : ∀ (j : Nat) t v, Tryd.f8.params[j]? = some t → args[j]? = some v → Value.okWide Tryd.prog W .any base t v := hval0
  have hW' := hW
  obtain ⟨p, q, hA0, hV, rfl, hfz, hnd⟩ := hW
  have hA : DataW.TrodAll enc Tryd.prog W 0 (fun _ => true) true Tryd.f8.params.toList args.toList ds p := hA0
  rw [Tryd.params8] at hA hval
  obtain ⟨v0, vs0, d0, ds0, p0, q0, hargs, rfl, rfl, h0, r0⟩ := trodAll_cons hA
  obtain ⟨v1, vs1, d1, ds1, p1, q1, rfl, rfl, rfl, h1, r1⟩ := trodAll_cons r0
  obtain ⟨rfl, rfl, rfl⟩ := trodAll_nil r1
  obtain rfl : args = #[v0, v1] := by cases args; simp_all
  obtain ⟨rfl, rfl⟩ := trodVars_none hV
  obtain ⟨a0, rfl, rfl, rfl, w0⟩ := open_int Tryd.underlying3 (hval 0 3 v0 rfl rfl) h0
  obtain ⟨a1, len1, cap1, rfl⟩ := okWide_slice Tryd.underlying38 (hval 1 38 v1 rfl rfl)
  have k1 := h1
  have lt1 : ∀ x ∈ p1, x.block < W.heap.size := by obtain ⟨m, hm⟩ := k1; exact DataW.trod_lt m _ _ _ hm
  obtain ⟨F1, w1⟩ : ∃ F, OpsIn kd1 5 W a1 len1 cap1 F := by
    obtain ⟨fuel, hf⟩ := h1
    obtain ⟨fs, hs, hone, hC, hn, hk⟩ := kinds1
    obtain ⟨F, hF⟩ := slice_reads Tryd.underlying38 hs hone hC hk (by simpa [Value.cells] using hf)
    rw [hn] at hF
    exact ⟨F, hF⟩
  clear hA0 hval0
  have hg := handle_of_laid hL
  refine (Go.Proofs.YtghgfopcnaoaiaaDoor.tablePlays_walk a0 a1 len1 cap1 F1 W w0 w1 hg).mono fun e W' ⟨he, bel⟩ => ?_
  subst he
  exact ⟨_, rfl, _, _, _, [], _, [], hW', trodAll_mk1 (shut_bool Tryd.underlying4 _), (trodAll_cons_mk (shut_int Tryd.underlying3 w0) (trodAll_cons_mk (Below.trod laidOut (by kernel_rfl) (of_decide_eq_true (by kernel_rfl)) k1 bel lt1) trodAll_mk0)), rfl, bel.frame _, fun h => by cases h⟩

theorem over : Rows.tablePlaysRow.holds Tryd.pinned (OpenSpec.ofChange Rows.tablePlaysSpec) :=
  OpenClaim.holds_of_wide 8 Tryd.f8 rfl rfl rfl rfl rfl rfl rfl ⟨rfl, rfl, rfl, rfl, rfl⟩ rfl rfl rfl rfl rfl (by kernel_rfl) Tryd.func8 (by kernel_rfl)
    (of_decide_eq_true (by kernel_rfl)) (by unfold Func.isWrapper; first | (rw [if_pos (by decide +kernel)]; kernel_rfl) | (rw [if_neg (by decide +kernel)]; exact ⟨rfl, rfl⟩))
    (fun os started H enc _ => lifted os started H enc)

theorem proved : Rows.TablePlaysSaid := over

theorem card : Rows.TablePlaysCardSaid :=
  Claim7.holds_tied_plain_at .later [] [.handle] true (true, "b5c9f8cf152be5428a5e91734c466189132d7cb3e9b367d48dcacd3fa9c0e644") true
    over (fun _ h => by cases h) (by kernel_rfl) (fun _ h => by cases h) tablePlays_row_tie rfl ⟨rfl, rfl⟩ (by kernel_rfl) rfl
    (fun f fn hf hfn => by
      obtain rfl : f = 8 := Option.some.inj ((show Tryd.prog.funcNamed "distaff/distafflaw11.TablePlays" = some 8 by kernel_rfl).symm.trans hf) |>.symm
      obtain rfl : fn = Tryd.f8 := (Option.some.inj (Tryd.func8.symm.trans hfn)).symm
      exact ⟨by kernel_rfl, fun j t ht => by
        rw [Tryd.params8] at ht
        match j, ht with
        | 0, ht => simp at ht; subst ht; exact (show Tryd.prog.wantsStandIn 3 = false by kernel_rfl)
        | 1, ht => simp at ht; subst ht; exact (show Tryd.prog.wantsStandIn 38 = false by kernel_rfl)
        | j + 2, ht => simp at ht⟩)
    (by kernel_rfl)
#print axioms card
end Go.Proofs.YtghgfopcnaoaiaaDoor.tablePlays
