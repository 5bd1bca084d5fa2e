/-
  errors.As at a target of type **api.At where the error is a kind: false.
-/
import Derived.Test.YtmciclhifcjoiaaDoorErrAs
namespace Go.Proofs.YtmciclhifcjoiaaDoor
open Go.RowKit Go.Extern.Stop Go.Stop Go.Extern

section
variable (t : Nat) (old : Value) (k : Int) (w : World) (hg : GV w) (ht : Blk w t #[old] 93)
include hg ht

set_option maxRecDepth 100000 in
set_option maxHeartbeats 4000000 in
theorem as_miss : Calls Tryd.prog 47 #[.iface 30 (.int .i64 k), .iface 95 (.pointer (some ⟨t, 0, none⟩))] w fun ev w' =>
    ev = .returned (.bool false) ∧ Keeps [] w w' := by
  have _ht := ht
  have h6 := @run_callFunc_extern Tryd.prog 65 _ extValueOf Tryd.func65 (by kernel_rfl) (by kernel_rfl) (by kernel_rfl) (by kernel_rfl)
  have h7 := @run_callFunc_extern Tryd.prog 66 _ extType Tryd.func66 (by kernel_rfl) (by kernel_rfl) (by kernel_rfl) (by kernel_rfl)
  have h8 := @run_callFunc_extern Tryd.prog 67 _ extIsNil Tryd.func67 (by kernel_rfl) (by kernel_rfl) (by kernel_rfl) (by kernel_rfl)
  have h27 := @run_callFunc_extern Tryd.prog 92 _ extKind Tryd.func92 (by kernel_rfl) (by kernel_rfl) (by kernel_rfl) (by kernel_rfl)
  have h37 := @run_callFunc_extern Tryd.prog 104 _ extTElem Tryd.func104 (by kernel_rfl) (by kernel_rfl) (by kernel_rfl) (by kernel_rfl)
  have h38 := @run_callFunc_extern Tryd.prog 105 _ extImplements Tryd.func105 (by kernel_rfl) (by kernel_rfl) (by kernel_rfl) (by kernel_rfl)
  have h10 := @run_callFunc_extern Tryd.prog 74 _ extTypeOf Tryd.func74 (by kernel_rfl) (by kernel_rfl) (by kernel_rfl) (by kernel_rfl)
  have h35 := @run_callFunc_extern Tryd.prog 102 _ extAssignable Tryd.func102 (by kernel_rfl) (by kernel_rfl) (by kernel_rfl) (by kernel_rfl)
  have tO := t_e
  have mA := m_assign
  have aP := a_e
  have f6 := vo_pp
  have f7 := ty_pp
  have mK := m_kind
  have mE := m_elem
  have mI := m_impl
  have k1 := k_pp
  have k2 := k_p
  have e1 := e_pp
  have i1 := i_p
  have nA := noAsE
  have uE := noUnwrapE
  have vE := noUnwrapsE
  have hlt := hg.lt
  have n8 := nil_pp w.heap.size ⟨t, 0, none⟩ ((w.alloc (.cells #[.pointer (some ⟨t, 0, none⟩)] 95)).alloc (.cells #[.pointer (some ⟨1, 95, none⟩), .pointer (some ⟨w.heap.size, 0, none⟩), .int .u64 150] 123)) (((Blk.fresh w _ _).alloc _).cell (i := 0) rfl)
  have hg2 : ((w.alloc (.cells #[.pointer (some ⟨t, 0, none⟩)] 95)).alloc (.cells #[.pointer (some ⟨1, 95, none⟩), .pointer (some ⟨w.heap.size, 0, none⟩), .int .u64 150] 123)).cell? ⟨0, 0, none⟩ = some (.iface 137 (.agg #[.pointer (some ⟨1, 24, none⟩)])) :=
    hg.keeps (((Keeps.refl [] w).alloc (.cells #[.pointer (some ⟨t, 0, none⟩)] 95)).alloc (.cells #[.pointer (some ⟨1, 95, none⟩), .pointer (some ⟨w.heap.size, 0, none⟩), .int .u64 150] 123)) (by simp)
  clear ht _ht
  go_enter Tryd.func47, Tryd.ntmps47
  go_wp2
  refine wp_loop_rounds 1 ?_
  rw [rounds_succ]
  go_wp2
  go_ret
  exact ⟨rfl, (((Keeps.refl _ _).alloc _).alloc _).alloc _⟩
end

end Go.Proofs.YtmciclhifcjoiaaDoor
