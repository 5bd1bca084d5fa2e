/-
  errors.As at a target of type **api.At, by contracts: an error of that type; a kind.
-/
import Derived.Test.YtghgfopcnaoaiaaDoorErrLaw
namespace Go.Proofs.YtghgfopcnaoaiaaDoor
open Go.RowKit Go.Extern.Stop Go.Stop Go.Extern

/-! The model's entries for reflectlite, each behind a name of its own. -/
def extValueOf : Array Value → Sem Value := fun args => ReflectliteValue.unpack (args.getD 0 (.tuple #[]))
def extType : Array Value → Sem Value := ReflectliteValue.methodAny (ReflectliteValue.valueError "reflectlite.Value.Type" 0) (fun t _ _ _ => ReflectliteType.toType t)
def extIsNil : Array Value → Sem Value := ReflectliteValue.method (ReflectliteValue.valueError "reflectlite.Value.IsNil" 0) ReflectliteValue.isNil
def extKind : Array Value → Sem Value := ReflectliteType.abiMethod fun t => do pure (.int .u8 (← Rtype.kind t))
def extTElem : Array Value → Sem Value := ReflectliteType.method ReflectliteType.elem
def extImplements : Array Value → Sem Value := ReflectliteType.relation "Implements" ReflectliteType.implements_
def extAssignable : Array Value → Sem Value := ReflectliteType.relation "AssignableTo" ReflectliteType.assignableTo
def extTypeOf : Array Value → Sem Value := ReflectliteType.typeOf
def extElem : Array Value → Sem Value := ReflectliteValue.method (ReflectliteValue.valueError "reflectlite.Value.Elem" 0) ReflectliteValue.elem
def extSet : Array Value → Sem Value := ReflectliteValue.set

/-- The Value of a pointer variable at a. -/
def valPP (a : Nat) : Value := .agg #[.pointer (some ⟨1, 74, none⟩), .pointer (some ⟨a, 0, none⟩), .int .u64 150]
def valP (a : Nat) : Value := .agg #[.pointer (some ⟨1, 72, none⟩), .pointer (some ⟨a, 0, none⟩), .int .u64 150]
def valSet (a : Nat) : Value := .agg #[.pointer (some ⟨1, 72, none⟩), .pointer (some ⟨a, 0, none⟩), .int .u64 406]
/-- A type as reflectlite tells it. -/
def typ (t : Nat) : Value := .iface 113 (.agg #[.pointer (some ⟨1, t, none⟩)])

theorem vo_pp (t : Nat) (w : World) : (extValueOf #[.iface 74 (.pointer (some ⟨t, 0, none⟩))]).run Tryd.prog w = .ok (.agg #[.pointer (some ⟨1, 74, none⟩), .pointer (some ⟨w.heap.size, 0, none⟩), .int .u64 150]) (w.alloc (.cells #[.pointer (some ⟨t, 0, none⟩)] 74)) := by kernel_rfl
theorem vo_p (e : Nat) (w : World) : (extValueOf #[.iface 72 (.pointer (some ⟨e, 0, none⟩))]).run Tryd.prog w = .ok (.agg #[.pointer (some ⟨1, 72, none⟩), .pointer (some ⟨w.heap.size, 0, none⟩), .int .u64 150]) (w.alloc (.cells #[.pointer (some ⟨e, 0, none⟩)] 72)) := by kernel_rfl
theorem ty_pp (a : Nat) (w : World) : (extType #[.agg #[.pointer (some ⟨1, 74, none⟩), .pointer (some ⟨a, 0, none⟩), .int .u64 150]]).run Tryd.prog w = .ok (.iface 113 (.agg #[.pointer (some ⟨1, 74, none⟩)])) w := by kernel_rfl
theorem m_kind (h : Value) (w : World) : (Go.method 258 113 (.agg #[h]) "Kind").run Tryd.prog w = .ok (70, h) w := by kernel_rfl
theorem m_elem (h : Value) (w : World) : (Go.method 258 113 (.agg #[h]) "Elem").run Tryd.prog w = .ok (82, .agg #[h]) w := by kernel_rfl
theorem m_impl (h : Value) (w : World) : (Go.method 258 113 (.agg #[h]) "Implements").run Tryd.prog w = .ok (83, .agg #[h]) w := by kernel_rfl
theorem m_assign (h : Value) (w : World) : (Go.method 258 113 (.agg #[h]) "AssignableTo").run Tryd.prog w = .ok (80, .agg #[h]) w := by kernel_rfl
theorem k_pp (w : World) : (extKind #[.pointer (some ⟨1, 74, none⟩)]).run Tryd.prog w = .ok (.int .u8 22) w := by kernel_rfl
theorem k_p (w : World) : (extKind #[.pointer (some ⟨1, 72, none⟩)]).run Tryd.prog w = .ok (.int .u8 22) w := by kernel_rfl
theorem e_pp (w : World) : (extTElem #[.agg #[.pointer (some ⟨1, 74, none⟩)]]).run Tryd.prog w = .ok (.iface 113 (.agg #[.pointer (some ⟨1, 72, none⟩)])) w := by kernel_rfl
theorem i_p (w : World) : (extImplements #[.agg #[.pointer (some ⟨1, 72, none⟩)], .iface 113 (.agg #[.pointer (some ⟨1, 24, none⟩)])]).run Tryd.prog w = .ok (.bool true) w := by kernel_rfl
theorem t_p (v : Value) (w : World) : (extTypeOf #[.iface 72 v]).run Tryd.prog w = .ok (.iface 113 (.agg #[.pointer (some ⟨1, 72, none⟩)])) w := by kernel_rfl
theorem t_e (v : Value) (w : World) : (extTypeOf #[.iface 30 v]).run Tryd.prog w = .ok (.iface 113 (.agg #[.pointer (some ⟨1, 30, none⟩)])) w := by kernel_rfl
theorem a_p (w : World) : (extAssignable #[.agg #[.pointer (some ⟨1, 72, none⟩)], .iface 113 (.agg #[.pointer (some ⟨1, 72, none⟩)])]).run Tryd.prog w = .ok (.bool true) w := by kernel_rfl
theorem a_e (w : World) : (extAssignable #[.agg #[.pointer (some ⟨1, 30, none⟩)], .iface 113 (.agg #[.pointer (some ⟨1, 72, none⟩)])]).run Tryd.prog w = .ok (.bool false) w := by kernel_rfl

theorem parts_pp (a : Nat) (w : World) : (ReflectliteValue.parts (.agg #[.pointer (some ⟨1, 74, none⟩), .pointer (some ⟨a, 0, none⟩), .int .u64 150])).run Tryd.prog w = .ok (some (74, ⟨a, 0, none⟩, 150)) w := by kernel_rfl
theorem parts_p (a : Nat) (w : World) : (ReflectliteValue.parts (.agg #[.pointer (some ⟨1, 72, none⟩), .pointer (some ⟨a, 0, none⟩), .int .u64 150])).run Tryd.prog w = .ok (some (72, ⟨a, 0, none⟩, 150)) w := by kernel_rfl
theorem parts_s (a : Nat) (w : World) : (ReflectliteValue.parts (.agg #[.pointer (some ⟨1, 72, none⟩), .pointer (some ⟨a, 0, none⟩), .int .u64 406])).run Tryd.prog w = .ok (some (72, ⟨a, 0, none⟩, 406)) w := by kernel_rfl
theorem one_method (z : Sem Value) (f : TypeId → Addr → Nat → Nat → Sem Value) (v : Value) :
    ReflectliteValue.method z f #[v] = (do match ← ReflectliteValue.parts v with | none => z | some (t, a, fl) => f t a fl (fl % 32)) := rfl
theorem nil_pp (a : Nat) (p : Addr) (W : World) (ha : W.cell? ⟨a, 0, none⟩ = some (.pointer (some p))) :
    (extIsNil #[.agg #[.pointer (some ⟨1, 74, none⟩), .pointer (some ⟨a, 0, none⟩), .int .u64 150]]).run Tryd.prog W = .ok (.bool false) W := by
  unfold extIsNil
  rw [one_method]
  simp only [Sem.run_bind, parts_pp, Result.andThen]
  simp [ReflectliteValue.isNil, loadVar, isAgg, underlying, Tryd.underlying74, ha, Result.andThen]
theorem elem_of (w : World) : (Rtype.elem? 74).run Tryd.prog w = .ok (some 72) w := by kernel_rfl
theorem mk_p (p : Addr) (w : World) : (ReflectliteValue.mk 72 p ReflectliteValue.flagAddr).run Tryd.prog w = .ok (.agg #[.pointer (some ⟨1, 72, none⟩), .pointer (some p), .int .u64 406]) w := by kernel_rfl
theorem elem_pp (a : Nat) (p : Addr) (W : World) (ha : W.cell? ⟨a, 0, none⟩ = some (.pointer (some p))) :
    (extElem #[.agg #[.pointer (some ⟨1, 74, none⟩), .pointer (some ⟨a, 0, none⟩), .int .u64 150]]).run Tryd.prog W = .ok (.agg #[.pointer (some ⟨1, 72, none⟩), .pointer (some p), .int .u64 406]) W := by
  unfold extElem
  rw [one_method]
  simp only [Sem.run_bind, parts_pp, Result.andThen]
  simp [ReflectliteValue.elem, loadVar, isAgg, underlying, Tryd.underlying74, ha, Result.andThen, elem_of, mk_p]
theorem one_set (v x : Value) : ReflectliteValue.set #[v, x] = (do
    let (some (dst, a, fl), some (src, b, _)) := (← ReflectliteValue.parts v, ← ReflectliteValue.parts x)
      | unsupported (.noEntry "extern/(internal/reflectlite.Value).Set.zeroValue")
    if fl / ReflectliteValue.flagAddr % 2 == 0 then unsupported (.noEntry "extern/(internal/reflectlite.Value).Set.unaddressable")
    let val ← loadVar src b
    if ← Rtype.directlyAssignable dst src then storeVar dst a val
    else if ← Rtype.implements dst src then
      if (← Rtype.kind src) == 20 then
        match val with
        | .nilIface => unsupported (.noEntry "extern/reflectlite: a nil value of one interface type handed on as a value of another")
        | _ => storeVar dst a val
      else storeVar dst a (.iface src val)
    else panicString ("reflectlite.Set: value of type " ++ (← Rtype.spelt src) ++ " is not assignable to type " ++ (← Rtype.spelt dst))
    pure (.tuple #[])) := rfl
theorem direct_p (w : World) : (Rtype.directlyAssignable 72 72).run Tryd.prog w = .ok true w := by kernel_rfl
theorem set_p (t b : Nat) (e : Addr) (old : Value) (W : World) (hb : W.cell? ⟨b, 0, none⟩ = some (.pointer (some e))) (ht : W.cell? ⟨t, 0, none⟩ = some old) (hf : W.frozen? ⟨t, 0, none⟩ = false) :
    (extSet #[.agg #[.pointer (some ⟨1, 72, none⟩), .pointer (some ⟨t, 0, none⟩), .int .u64 406], .agg #[.pointer (some ⟨1, 72, none⟩), .pointer (some ⟨b, 0, none⟩), .int .u64 150]]).run Tryd.prog W
      = .ok (.tuple #[]) (W.setCell ⟨t, 0, none⟩ (.pointer (some e))) := by
  unfold extSet
  rw [one_set]
  simp only [Sem.run_bind, parts_s, parts_p, Result.andThen]
  simp [ReflectliteValue.flagAddr, loadVar, isAgg, underlying, Tryd.underlying72, hb, Result.andThen, direct_p, storeVar, Value.cells, storeCells, Addr.add]
  rw [run_store Tryd.prog W ⟨t, 0, none⟩ _ _ (by rfl)]
  simp [ht, hf]

section
variable (e t : Nat) (old : Value) (k : Int) (w : World) (hg : GV w) (ht : Blk w t #[old] 72)
include hg ht

set_option maxRecDepth 100000 in
set_option maxHeartbeats 4000000 in
theorem as_hit : Calls Tryd.prog 33 #[.iface 72 (.pointer (some ⟨e, 0, none⟩)), .iface 74 (.pointer (some ⟨t, 0, none⟩))] w fun ev w' =>
    ev = .returned (.bool true) ∧ Blk w' t #[.pointer (some ⟨e, 0, none⟩)] 72 ∧ Keeps [t] w w' := by
  have h6 := @run_callFunc_extern Tryd.prog 46 _ extValueOf Tryd.func46 (by kernel_rfl) (by kernel_rfl) (by kernel_rfl) (by kernel_rfl)
  have h7 := @run_callFunc_extern Tryd.prog 47 _ extType Tryd.func47 (by kernel_rfl) (by kernel_rfl) (by kernel_rfl) (by kernel_rfl)
  have h8 := @run_callFunc_extern Tryd.prog 48 _ extIsNil Tryd.func48 (by kernel_rfl) (by kernel_rfl) (by kernel_rfl) (by kernel_rfl)
  have h27 := @run_callFunc_extern Tryd.prog 70 _ extKind Tryd.func70 (by kernel_rfl) (by kernel_rfl) (by kernel_rfl) (by kernel_rfl)
  have h37 := @run_callFunc_extern Tryd.prog 82 _ extTElem Tryd.func82 (by kernel_rfl) (by kernel_rfl) (by kernel_rfl) (by kernel_rfl)
  have h38 := @run_callFunc_extern Tryd.prog 83 _ extImplements Tryd.func83 (by kernel_rfl) (by kernel_rfl) (by kernel_rfl) (by kernel_rfl)
  have h10 := @run_callFunc_extern Tryd.prog 52 _ extTypeOf Tryd.func52 (by kernel_rfl) (by kernel_rfl) (by kernel_rfl) (by kernel_rfl)
  have h35 := @run_callFunc_extern Tryd.prog 80 _ extAssignable Tryd.func80 (by kernel_rfl) (by kernel_rfl) (by kernel_rfl) (by kernel_rfl)
  have h11 := @run_callFunc_extern Tryd.prog 54 _ extElem Tryd.func54 (by kernel_rfl) (by kernel_rfl) (by kernel_rfl) (by kernel_rfl)
  have h12 := @run_callFunc_extern Tryd.prog 55 _ extSet Tryd.func55 (by kernel_rfl) (by kernel_rfl) (by kernel_rfl) (by kernel_rfl)
  have tO := t_p
  have mA := m_assign
  have aP := a_p
  have vP := vo_p
  have f6 := vo_pp
  have f7 := ty_pp
  have mK := m_kind
  have mE := m_elem
  have mI := m_impl
  have k1 := k_pp
  have k2 := k_p
  have e1 := e_pp
  have i1 := i_p
  have htl := ht.lt
  have hlt := hg.lt
  have n8 := nil_pp w.heap.size ⟨t, 0, none⟩ ((w.alloc (.cells #[.pointer (some ⟨t, 0, none⟩)] 74)).alloc (.cells #[.pointer (some ⟨1, 74, none⟩), .pointer (some ⟨w.heap.size, 0, none⟩), .int .u64 150] 100)) (((Blk.fresh w _ _).alloc _).cell (i := 0) rfl)
  have hg2 : ((w.alloc (.cells #[.pointer (some ⟨t, 0, none⟩)] 74)).alloc (.cells #[.pointer (some ⟨1, 74, none⟩), .pointer (some ⟨w.heap.size, 0, none⟩), .int .u64 150] 100)).cell? ⟨0, 0, none⟩ = some (.iface 113 (.agg #[.pointer (some ⟨1, 24, none⟩)])) := hg.keeps (((Keeps.refl [] w).alloc (.cells #[.pointer (some ⟨t, 0, none⟩)] 74)).alloc (.cells #[.pointer (some ⟨1, 74, none⟩), .pointer (some ⟨w.heap.size, 0, none⟩), .int .u64 150] 100)) (by simp)
  have el := elem_pp w.heap.size ⟨t, 0, none⟩ (((w.alloc (.cells #[.pointer (some ⟨t, 0, none⟩)] 74)).alloc (.cells #[.pointer (some ⟨1, 74, none⟩), .pointer (some ⟨w.heap.size, 0, none⟩), .int .u64 150] 100)).alloc (.cells #[.pointer (some ⟨1, 74, none⟩), .pointer (some ⟨w.heap.size, 0, none⟩), .int .u64 150] 100)) ((((Blk.fresh w _ _).alloc _).alloc _).cell (i := 0) rfl)
  have st := set_p t (w.heap.size + 1 + 1 + 1) ⟨e, 0, none⟩ old ((((w.alloc (.cells #[.pointer (some ⟨t, 0, none⟩)] 74)).alloc (.cells #[.pointer (some ⟨1, 74, none⟩), .pointer (some ⟨w.heap.size, 0, none⟩), .int .u64 150] 100)).alloc (.cells #[.pointer (some ⟨1, 74, none⟩), .pointer (some ⟨w.heap.size, 0, none⟩), .int .u64 150] 100)).alloc (.cells #[.pointer (some ⟨e, 0, none⟩)] 72)) ((Blk.fresh_at (by simp) _ _).cell (i := 0) rfl) (((((ht.alloc _).alloc _).alloc _).alloc _).cell (i := 0) rfl) (((((ht.alloc _).alloc _).alloc _).alloc _).frozen 0)
  have HT := hid ht
  clear ht
  go_enter Tryd.func33, Tryd.ntmps33
  go_wp2
  refine wp_loop_rounds 1 ?_
  rw [rounds_succ]
  go_wp2
  go_ret
  exact ⟨rfl, ((((HT.out.alloc _).alloc _).alloc _).alloc _).set 0 _, (((((Keeps.refl _ _).alloc _).alloc _).alloc _).alloc _).set (by simp) _⟩
end
end Go.Proofs.YtghgfopcnaoaiaaDoor
