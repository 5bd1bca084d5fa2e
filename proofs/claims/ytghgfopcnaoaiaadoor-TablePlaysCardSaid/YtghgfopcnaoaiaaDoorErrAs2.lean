/-
  errors.As at a target of type **api.At where the error is a kind: false.
-/
import Derived.Test.YtghgfopcnaoaiaaDoorErrAs
namespace Go.Proofs.YtghgfopcnaoaiaaDoor
open Go.RowKit Go.Extern.Stop Go.Stop Go.Extern

section
variable (t : Nat) (old : Value) (k : Int) (w : World) (hg : GV w) (ht : Blk w t #[old] 72)
include hg ht

set_option maxRecDepth 100000 in
set_option maxHeartbeats 4000000 in
theorem as_miss : Calls Tryd.prog 33 #[.iface 30 (.int .i64 k), .iface 74 (.pointer (some ⟨t, 0, none⟩))] w fun ev w' =>
    ev = .returned (.bool false) ∧ Keeps [] w w' := by
  have _ht := ht
  have h6 := @run_callFunc_extern Tryd.prog 46 _ extValueOf Tryd.func46 (by kernel_rfl) (by kernel_rfl) (by kernel_rfl) (by kernel_rfl)
  have h7 := @run_callFunc_extern Tryd.prog 47 _ extType Tryd.func47 (by kernel_rfl) (by kernel_rfl) (by kernel_rfl) (by kernel_rfl)
  have h8 := @run_callFunc_extern Tryd.prog 48 _ extIsNil Tryd.func48 (by kernel_rfl) (by kernel_rfl) (by kernel_rfl) (by kernel_rfl)
  have h27 := @run_callFunc_extern Tryd.prog 70 _ extKind Tryd.func70 (by kernel_rfl) (by kernel_rfl) (by kernel_rfl) (by kernel_rfl)
  have h37 := @run_callFunc_extern Tryd.prog 82 _ extTElem Tryd.func82 (by kernel_rfl) (by kernel_rfl) (by kernel_rfl) (by kernel_rfl)
  have h38 := @run_callFunc_extern Tryd.prog 83 _ extImplements Tryd.func83 (by kernel_rfl) (by kernel_rfl) (by kernel_rfl) (by kernel_rfl)
  have h10 := @run_callFunc_extern Tryd.prog 52 _ extTypeOf Tryd.func52 (by kernel_rfl) (by kernel_rfl) (by kernel_rfl) (by kernel_rfl)
  have h35 := @run_callFunc_extern Tryd.prog 80 _ extAssignable Tryd.func80 (by kernel_rfl) (by kernel_rfl) (by kernel_rfl) (by kernel_rfl)
  have tO := t_e
  have mA := m_assign
  have aP := a_e
  have f6 := vo_pp
  have f7 := ty_pp
  have mK := m_kind
  have mE := m_elem
  have mI := m_impl
  have k1 := k_pp
  have k2 := k_p
  have e1 := e_pp
  have i1 := i_p
  have nA := noAsE
  have uE := noUnwrapE
  have vE := noUnwrapsE
  have hlt := hg.lt
  have n8 := nil_pp w.heap.size ⟨t, 0, none⟩ ((w.alloc (.cells #[.pointer (some ⟨t, 0, none⟩)] 74)).alloc (.cells #[.pointer (some ⟨1, 74, none⟩), .pointer (some ⟨w.heap.size, 0, none⟩), .int .u64 150] 100)) (((Blk.fresh w _ _).alloc _).cell (i := 0) rfl)
  have hg2 : ((w.alloc (.cells #[.pointer (some ⟨t, 0, none⟩)] 74)).alloc (.cells #[.pointer (some ⟨1, 74, none⟩), .pointer (some ⟨w.heap.size, 0, none⟩), .int .u64 150] 100)).cell? ⟨0, 0, none⟩ = some (.iface 113 (.agg #[.pointer (some ⟨1, 24, none⟩)])) :=
    hg.keeps (((Keeps.refl [] w).alloc (.cells #[.pointer (some ⟨t, 0, none⟩)] 74)).alloc (.cells #[.pointer (some ⟨1, 74, none⟩), .pointer (some ⟨w.heap.size, 0, none⟩), .int .u64 150] 100)) (by simp)
  clear ht _ht
  go_enter Tryd.func33, Tryd.ntmps33
  go_wp2
  refine wp_loop_rounds 1 ?_
  rw [rounds_succ]
  go_wp2
  go_ret
  exact ⟨rfl, (((Keeps.refl _ _).alloc _).alloc _).alloc _⟩
end

end Go.Proofs.YtghgfopcnaoaiaaDoor
