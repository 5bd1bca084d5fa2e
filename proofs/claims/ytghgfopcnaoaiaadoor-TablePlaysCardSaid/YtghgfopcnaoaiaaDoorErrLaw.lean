/-
  '==' between two interface values of one integer type; the package-level variable that errors.As reads.
-/
import Derived.Test.YtghgfopcnaoaiaaDoorRowIn
import Derived.Test.YtghgfopcnaoaiaaDoorErrAt
import Derived.LaidEql
import Derived.Stop.Asserts
import Derived.RowKitTokens
import Derived.Deep.LoopGhost
import Derived.Deep.Cut
import Derived.Deep.CutRange
import Derived.Deep.CutBlock
import Derived.Deep.DeepCutAuto
namespace Go.Proofs.YtghgfopcnaoaiaaDoor
open Go.RowKit Go.Extern.Stop Go.Stop Go.Extern

section
variable {P : Program} (w : World)

/-- Equal kinds: equal numbers. -/
theorem eql_in_kinds (d : Nat) {ti tn : TypeId} {ms : Array (String × TypeId)} {i : TypeInfo} {k : IntKind} (a b : Int)
    (hi : P.underlying ti = some (.interface ms)) (hn : P.underlying tn = some (.int k)) (hinfo : P.info? tn = some i) (hcomp : i.comparable = true) :
    (Op.equalIn (d + 2) ti (.iface tn (.int k a)) (.iface tn (.int k b))).run P w = .ok (a == b) w := by
  simp [Op.equalIn, run_underlying hi, run_underlying hn, typeInfo, hinfo, hcomp]

theorem eql_kinds {ti tn : TypeId} {ms : Array (String × TypeId)} {i : TypeInfo} {k : IntKind} (a b : Int)
    (hi : P.underlying ti = some (.interface ms)) (hn : P.underlying tn = some (.int k)) (hinfo : P.info? tn = some i) (hcomp : i.comparable = true) :
    (binOp .eql ti (.iface tn (.int k a)) (.iface tn (.int k b))).run P w = .ok (.bool (a == b)) w := by
  simp only [binOp]
  simp [Op.equal, Op.maxDepth, eql_in_kinds w 9998 a b hi hn hinfo hcomp]
end

/-- The variable errors.errorType lies in block 0. -/
def GV (w : World) : Prop := w.cell? ⟨0, 0, none⟩ = some (.iface 113 (.agg #[.pointer (some ⟨1, 24, none⟩)]))

theorem GV.lt {w : World} (h : GV w) : 0 < w.heap.size := lt_of_cell (p := ⟨0, 0, none⟩) h
theorem GV.keeps {S : List Nat} {w w' : World} (h : GV w) (k : Keeps S w w') (h0 : 0 ∉ S) : GV w' := (k.cell (p := ⟨0, 0, none⟩) h.lt h0).trans h
theorem GV.ne {w : World} (h : GV w) {b : Nat} {v : Value} {t : TypeId} (hb : Blk w b #[v] t) (hv : ∀ t x, v ≠ .iface t x) : b ≠ 0 := by
  rintro rfl
  have hc := hb.cell (i := 0) rfl
  rw [h] at hc
  exact hv _ _ (Option.some.inj hc).symm

theorem typeOfErr (v : Value) (w : World) : (ReflectliteType.typeOf #[.iface 30 v]).run Tryd.prog w = .ok (.iface 113 (.agg #[.pointer (some ⟨1, 30, none⟩)])) w := by kernel_rfl
/-- The model's entries for reflectlite that a walk meets, each behind a name. -/
def extComparable : Array Value → Sem Value := ReflectliteType.method fun t => do Rtype.noPackHeld "Comparable" t; pure (.bool (← typeInfo t).comparable)
theorem comparableErr (w : World) : (extComparable #[.agg #[.pointer (some ⟨1, 30, none⟩)]]).run Tryd.prog w = .ok (.bool true) w := by kernel_rfl
theorem methodComparable (v : Value) (w : World) : (Go.method 258 113 v "Comparable").run Tryd.prog w = .ok (81, v) w := by kernel_rfl
theorem compErr : (Tryd.prog.info? 30).map (·.comparable) = some true := by kernel_rfl

theorem noIsE (v : Value) (xT : TypeId) (w : World) : (Instr.typeAssert (.iface 30 v) xT 125 true).run Tryd.prog w = .ok (.tuple #[.nilIface, .bool false]) w := run_typeAssert_lacksB Tryd.underlying125 (by kernel_rfl) (by kernel_rfl) v xT w
theorem noUnwrapE (v : Value) (xT : TypeId) (w : World) : (Instr.typeAssert (.iface 30 v) xT 120 true).run Tryd.prog w = .ok (.tuple #[.nilIface, .bool false]) w := run_typeAssert_lacksB Tryd.underlying120 (by kernel_rfl) (by kernel_rfl) v xT w
theorem noUnwrapsE (v : Value) (xT : TypeId) (w : World) : (Instr.typeAssert (.iface 30 v) xT 122 true).run Tryd.prog w = .ok (.tuple #[.nilIface, .bool false]) w := run_typeAssert_lacksB Tryd.underlying122 (by kernel_rfl) (by kernel_rfl) v xT w
theorem noAsE (v : Value) (xT : TypeId) (w : World) : (Instr.typeAssert (.iface 30 v) xT 117 true).run Tryd.prog w = .ok (.tuple #[.nilIface, .bool false]) w := run_typeAssert_lacksB Tryd.underlying117 (by kernel_rfl) (by kernel_rfl) v xT w
theorem noIsA (v : Value) (xT : TypeId) (w : World) : (Instr.typeAssert (.iface 72 v) xT 125 true).run Tryd.prog w = .ok (.tuple #[.nilIface, .bool false]) w := run_typeAssert_lacksB Tryd.underlying125 (by kernel_rfl) (by kernel_rfl) v xT w
theorem hasUnwrapA (v : Value) (xT : TypeId) (w : World) : (Instr.typeAssert (.iface 72 v) xT 120 true).run Tryd.prog w = .ok (.tuple #[.iface 72 v, .bool true]) w := run_typeAssert_hasB Tryd.underlying120 (by kernel_rfl) v xT w
theorem methodUnwrap (v : Value) (w : World) : (Go.method 258 72 v "Unwrap").run Tryd.prog w = .ok (75, v) w := by kernel_rfl

/-- What an error unwraps to. -/
def ErrLen : List (ByteArray × Int) → Nat := List.length

theorem unwrap_any (b : Nat) (l : ByteArray) (n : Int) (u : Value) (w : World) (h : Blk w b #[.string l, .int .i64 n, u] 76) :
    Calls Tryd.prog 75 #[.pointer (some ⟨b, 0, none⟩)] w fun e w' => e = .returned u ∧ w = w' := by
  have c2 := h.cell (i := 2) rfl
  go_enter Tryd.func75, Tryd.ntmps75
  go_wp2
  go_ret
  exact ⟨rfl, rfl⟩

set_option maxHeartbeats 1000000 in
theorem is_loop (l : List (ByteArray × Int)) (v : Value) (k t : Int) (q : Bool) (w : World) (h : ErrAt w v l k) (hq : (k == t) = q) :
    Calls Tryd.prog 53 #[v, .iface 30 (.int .i64 t), .bool true] w fun e w' => e = .returned (.bool q) ∧ w = w' := by
  obtain ⟨i, hi, hcmp⟩ := Option.map_eq_some_iff.1 compErr
  have nE := noIsE
  have uE := noUnwrapE
  have vE := noUnwrapsE
  have nA := noIsA
  have uA := hasUnwrapA
  have mU := methodUnwrap
  have heq := eql_kinds (P := Tryd.prog) w k t Tryd.underlying24 Tryd.underlying30 hi hcmp
  rw [hq] at heq
  have hty := fun v => run_eql_iface_types (P := Tryd.prog) 72 30 v (.int .i64 t) Tryd.underlying24 (by decide) w
  have H := hid h
  clear h hq
  go_enter Tryd.func53, Tryd.ntmps53
  go_wp2_with fail
  go_loopg [0] l.length (fun g v wr => ∃ r, g = r.length ∧ ErrAt w v r k ∧ w = wr)
  case atStart => exact ⟨l, rfl, H.out, rfl⟩
  case round =>
    obtain ⟨r, rfl, hE, rfl⟩ := hrel
    cases r with
    | nil =>
      obtain rfl := hE
      cases q with
      | true =>
        go_wp2_with fail
        go_ret
        exact ⟨rfl, rfl⟩
      | false =>
        go_wp2_with fail
        go_ret
        exact ⟨rfl, rfl⟩
    | cons x r =>
      obtain ⟨b, u, rfl, hb, hr⟩ := hE
      have HR := hid hr
      go_wp2_with fail
      refine (unwrap_any b _ _ u _ hb).mono ?_
      rintro e w' ⟨rfl, rfl⟩
      cases r with
      | nil =>
        obtain rfl := HR.out
        go_wp2_with fail
        go_roundg 0
        case measure => simp
        case rel => exact ⟨[], rfl, rfl, rfl⟩
      | cons y r =>
        obtain ⟨b2, u2, rfl, hb2, hr2⟩ := HR.out
        go_wp2_with fail
        go_roundg (r.length + 1)
        case measure => simp
        case rel => exact ⟨y :: r, rfl, HR.out, rfl⟩

set_option maxHeartbeats 1000000 in
/-- errors.Is: is the kind behind it that one? -/
theorem is_any (l : List (ByteArray × Int)) (v : Value) (k t : Int) (w : World) (h : ErrAt w v l k) :
    Calls Tryd.prog 45 #[v, .iface 30 (.int .i64 t)] w fun e w' => e = .returned (.bool (k == t)) ∧ w = w' := by
  have h8 := @run_callFunc_extern Tryd.prog 52 _ ReflectliteType.typeOf Tryd.func52 (by kernel_rfl) (by kernel_rfl) (by kernel_rfl) (by kernel_rfl)
  have h32 := @run_callFunc_extern Tryd.prog 81 _ extComparable Tryd.func81 (by kernel_rfl) (by kernel_rfl) (by kernel_rfl) (by kernel_rfl)
  have tT := typeOfErr
  have cT := comparableErr
  have mR := methodComparable
  generalize hq : (k == t) = q
  have HQ := hid hq
  have H := hid h
  obtain ⟨T, x, rfl⟩ : ∃ T x, v = .iface T x := by
    cases l with
    | nil => exact ⟨_, _, h⟩
    | cons y l => obtain ⟨b, u, hv, _⟩ := h; exact ⟨_, _, hv⟩
  clear h hq
  go_enter Tryd.func45, Tryd.ntmps45
  go_wp2_with fail
  refine (is_loop l _ k t q _ H.out HQ.out).mono ?_
  rintro e w' ⟨rfl, rfl⟩
  go_wp2_with fail
  go_ret
  exact ⟨rfl, rfl⟩

/-- The kind of an error, asked one by one. -/
def kindI (k : Int) : Int := if 1 ≤ k ∧ k ≤ 10 then k else 0

set_option maxHeartbeats 1000000 in
theorem kind_any (l : List (ByteArray × Int)) (v : Value) (k : Int) (w : World) (h : ErrAt w v l k) (h1 : 1 ≤ k) (h2 : k ≤ 10) :
    Calls Tryd.prog 32 #[v] w fun e w' => e = .returned (.int .i64 k) ∧ w = w' := by
  have H := hid h
  clear h
  go_enter Tryd.func32, Tryd.ntmps32
  go_wp2_with fail
  go_loop [3, 4] (fun f i => ∃ j : Int, 1 ≤ j ∧ j ≤ 11 ∧ i = .int .i64 j ∧ f = .int .i64 (if k < j then k else 0)) (fun _ i => (11 - intOf i).toNat)
  case atStart => exact ⟨1, by omega, by omega, rfl, by rw [if_neg (by omega)]⟩
  case round =>
    obtain ⟨j, hj1, hj2, rfl, rfl⟩ := hrel
    by_cases hlt : j ≤ 10
    · rcases Int.lt_trichotomy k j with hlt2 | heq | hgt
      · rw [if_pos hlt2]
        have hb : (k == j) = false := by simp; omega
        have HB := hid hb
        clear hb
        go_wp2_with fail
        refine (is_any l v k j _ H.out).mono ?_
        rintro e w' ⟨rfl, rfl⟩
        rw [HB.out]
        go_wp2_with fail
        go_round
        case rel => exact ⟨j + 1, by omega, by omega, by go_num, by rw [if_pos (by omega)]⟩
        case measure => simp [intOf]; omega
      · subst heq
        rw [if_neg (by omega)]
        have hb : (k == k) = true := by simp
        have HB := hid hb
        clear hb
        go_wp2_with fail
        refine (is_any l v k k _ H.out).mono ?_
        rintro e w' ⟨rfl, rfl⟩
        rw [HB.out]
        go_wp2_with fail
        go_round
        case rel => exact ⟨k + 1, by omega, by omega, by go_num, by rw [if_pos (by omega)]⟩
        case measure => simp [intOf]; omega
      · rw [if_neg (by omega)]
        have hb : (k == j) = false := by simp; omega
        have HB := hid hb
        clear hb
        go_wp2_with fail
        refine (is_any l v k j _ H.out).mono ?_
        rintro e w' ⟨rfl, rfl⟩
        rw [HB.out]
        go_wp2_with fail
        go_round
        case rel => exact ⟨j + 1, by omega, by omega, by go_num, by rw [if_neg (by omega)]⟩
        case measure => simp [intOf]; omega
    · obtain rfl : j = 11 := by omega
      rw [if_pos (by omega)]
      go_wp2_with fail
      go_ret
      exact ⟨rfl, rfl⟩
end Go.Proofs.YtghgfopcnaoaiaaDoor
