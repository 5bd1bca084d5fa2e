/-
  Chapter 11's statements: awake; what an error of the table's is.
-/
import Derived.Test.YtghgfopcnaoaiaaDoorTab5
import Derived.Test.YtghgfopcnaoaiaaDoorSame
namespace Go.Proofs.YtghgfopcnaoaiaaDoor
open Go.RowKit

theorem OpPost.ok {w w' : World} {b rb : Nat} {l' : List TRow} {e : Ending} (h : OpPost w b rb (0, l') e w') : e = .returned .nilIface ∧ TableAt w' b rb l' ∧ Keeps [rb] w w' := by
  obtain ⟨v, he, hE, hT, hK⟩ := h
  have hv : v = .nilIface := hE
  exact ⟨hv ▸ he, hT, hK⟩
theorem ReapPost.ok {w w' : World} {b rb : Nat} {a c : Int} {f : Bool} {l' : List TRow} {e : Ending} (h : ReapPost w b rb (⟨a, c, f, 0⟩, l') e w') :
    e = .returned (.tuple #[.int .u64 a, .int .u64 c, .bool f, .nilIface]) ∧ TableAt w' b rb l' ∧ Keeps [rb] w w' := by
  obtain ⟨v, he, hE, hT, hK⟩ := h
  have hv : v = .nilIface := hE
  exact ⟨hv ▸ he, hT, hK⟩
theorem OpPost.bad {w w' : World} {b rb : Nat} {k : Int} {l' : List TRow} {e : Ending} (hk : k ≠ 0) (h : OpPost w b rb (k, l') e w') :
    ∃ T x, e = .returned (.iface T x) ∧ ErrAt w' (.iface T x) [(tabS, 0)] k ∧ TableAt w' b rb l' ∧ Keeps [rb] w w' := by
  obtain ⟨v, he, hE, hT, hK⟩ := h
  simp only [errOf, if_neg hk] at hE
  obtain ⟨T, x, rfl⟩ := ErrAt.iface hE
  exact ⟨T, x, he, hE, hT, hK⟩

/-- Same, of an error of one place against No. -/
theorem same_one (v u : Value) (l : ByteArray) (n k : Int) (w : World) (hg : GV w) (hE : ErrAt w v [(l, n)] k) (hF : FailAt w u [(l, n)] k) (h1 : 1 ≤ k) (h2 : k ≤ 10) :
    Calls Tryd.prog 10 #[v, u] w fun e w' => e = .returned (.bool true) ∧ Keeps [] w w' :=
  same_any v u (some ([(l, n)], k)) w hg hE ⟨hF, by simp, h1, h2⟩

def aw0 : List TRow := [zrow, zrow]
def aw1 : List TRow := [⟨1, true, false, 64, 1, 0, 0, 0, false, false⟩, zrow]
def aw2 : List TRow := [⟨1, true, false, 64, 1, 0, 0, 0, false, false⟩, ⟨1, true, false, 65, 1, 0, 0, 0, false, false⟩]
def aw3 : List TRow := [⟨1, true, false, 64, 4, 0, 7, 0, false, true⟩, ⟨1, true, false, 65, 1, 0, 0, 0, false, false⟩]
def aw4 : List TRow := [⟨1, true, false, 64, 4, 0, 7, 0, false, false⟩, ⟨1, true, false, 65, 1, 0, 0, 0, false, false⟩]
def aw5 : List TRow := [⟨1, false, false, 0, 0, 0, 0, 0, false, false⟩, ⟨1, true, false, 65, 1, 0, 0, 0, false, false⟩]
def aw6 : List TRow := [⟨2, true, false, 128, 1, 3, 0, 0, false, false⟩, ⟨1, true, false, 65, 1, 0, 0, 0, false, false⟩]

section
variable (b rb : Nat) (w : World)
theorem aw_new : Calls Tryd.prog 9 #[.int .i64 2] w (TNewPost w 2) := tnew_ok 2 w (by omega) (by omega)
theorem aw_born0 (hT : TableAt w b rb aw0) : Calls Tryd.prog 14 #[.pointer (some ⟨b, 0, none⟩), .int .u64 0] w (BornPost w b rb 64 aw1) :=
  (show (bornRow zrow 0 0).id = 64 from by kernel_rfl) ▸ (show aw0.set 0 (bornRow zrow 0 0) = aw1 from by kernel_rfl) ▸ born_ok b rb aw0 0 zrow 0 w hT rfl rfl (by intro j q hj; omega)
theorem aw_born1 (hT : TableAt w b rb aw1) : Calls Tryd.prog 14 #[.pointer (some ⟨b, 0, none⟩), .int .u64 0] w (BornPost w b rb 65 aw2) :=
  (show (bornRow zrow 1 0).id = 65 from by kernel_rfl) ▸ (show aw1.set 1 (bornRow zrow 1 0) = aw2 from by kernel_rfl) ▸ born_ok b rb aw1 1 zrow 0 w hT rfl rfl (by
    intro j q hj hq
    match j, hj with
    | 0, _ => simp [aw1] at hq; subst hq; rfl)
theorem aw_born2 (hT : TableAt w b rb aw2) : Calls Tryd.prog 14 #[.pointer (some ⟨b, 0, none⟩), .int .u64 0] w fun e w' =>
      e = .returned (.tuple #[.int .u64 0, .iface 72 (.pointer (some ⟨w.heap.size, 0, none⟩))]) ∧ w.alloc (.cells #[.string tabS, .int .i64 0, .iface 30 (.int .i64 3)] 76) = w' :=
  born_full b rb aw2 0 w hT (by
    intro j q hq
    match j, hq with
    | 0, hq => simp [aw2] at hq; subst hq; rfl
    | 1, hq => simp [aw2] at hq; subst hq; rfl
    | j + 2, hq => simp [aw2] at hq)
theorem aw_end (hT : TableAt w b rb aw2) : Calls Tryd.prog 18 #[.pointer (some ⟨b, 0, none⟩), .int .u64 64, .int .u64 7] w fun e w' => e = .returned .nilIface ∧ TableAt w' b rb aw3 ∧ Keeps [rb] w w' :=
  ((show endF aw2 64 7 = (0, aw3) from by kernel_rfl) ▸ end_any b rb aw2 64 7 w hT (by omega)).mono fun _ _ h => h.ok
theorem aw_leave (hT : TableAt w b rb aw3) : Calls Tryd.prog 19 #[.pointer (some ⟨b, 0, none⟩), .int .u64 64] w fun e w' => e = .returned .nilIface ∧ TableAt w' b rb aw4 ∧ Keeps [rb] w w' :=
  ((show leaveF aw3 64 = (0, aw4) from by kernel_rfl) ▸ leave_any b rb aw3 64 w hT (by omega)).mono fun _ _ h => h.ok
theorem aw_reap (hT : TableAt w b rb aw4) : Calls Tryd.prog 17 #[.pointer (some ⟨b, 0, none⟩), .int .u64 64] w fun e w' => e = .returned (.tuple #[.int .u64 7, .int .u64 0, .bool true, .nilIface]) ∧ TableAt w' b rb aw5 ∧ Keeps [rb] w w' :=
  ((show reapF aw4 64 = ((⟨7, 0, true, 0⟩ : ReapR), aw5) from by kernel_rfl) ▸ reap_any b rb aw4 64 w hT (by omega)).mono fun _ _ h => h.ok
theorem aw_born3 (hT : TableAt w b rb aw5) : Calls Tryd.prog 14 #[.pointer (some ⟨b, 0, none⟩), .int .u64 3] w (BornPost w b rb 128 aw6) :=
  (show (bornRow ⟨1, false, false, 0, 0, 0, 0, 0, false, false⟩ 0 3).id = 128 from by kernel_rfl) ▸ (show aw5.set 0 (bornRow ⟨1, false, false, 0, 0, 0, 0, 0, false, false⟩ 0 3) = aw6 from by kernel_rfl) ▸ born_ok b rb aw5 0 _ 3 w hT rfl rfl (by intro j q hj; omega)
end

/-- The statement's GV, behind whatever wrote new blocks alone. -/
theorem GV.own {S : List Nat} {W w w' : World} (hg : GV w) (hW : GV W) (hK : Keeps S w w') (hS : ∀ x, x ∈ S → W.heap.size ≤ x) : GV w' :=
  hg.keeps hK (fun h => by have := hS 0 h; have := hW.lt; omega)

set_option maxRecDepth 100000 in
set_option maxHeartbeats 1000000 in
theorem awake_any (w : World) (hg : GV w) : Calls Tryd.prog 12 #[] w fun e w' => e = .returned (.bool true) ∧ Keeps [] w w' := by
  have HG := hid hg
  go_enter Tryd.func12, Tryd.ntmps12
  go_wp2_with fail
  refine (aw_new _).mono ?_
  rintro e w1 ⟨b, rb, rfl, hT, hK, hb, hrb⟩
  have hx : ∀ x, x ∈ [rb] → x ∈ ([] : List Nat) ∨ w.heap.size ≤ x := by intro x hx; simp at hx; omega
  go_wp2_with fail
  refine (aw_born0 b rb _ hT).mono ?_
  rintro e w2 ⟨rfl, hT2, hK2⟩
  have hK2 := hK.drop hK2 hx
  go_wp2_with fail
  refine (aw_born1 b rb _ hT2).mono ?_
  rintro e w3 ⟨rfl, hT3, hK3⟩
  have hK3 := hK2.drop hK3 hx
  go_wp2_with fail
  refine (aw_born2 b rb _ hT3).mono ?_
  rintro e w4 ⟨rfl, rfl⟩
  have hE4 := ErrAt.fresh w3 tabS 0 3
  have hK4 := hK3.alloc (.cells #[.string tabS, .int .i64 0, .iface 30 (.int .i64 3)] 76)
  have hT4 := hT3.keeps ((Keeps.refl [] w3).alloc (.cells #[.string tabS, .int .i64 0, .iface 30 (.int .i64 3)] 76)) (by simp) (by simp)
  generalize (w3.alloc (.cells #[.string tabS, .int .i64 0, .iface 30 (.int .i64 3)] 76)) = w4 at *
  go_wp2_with fail
  refine (no_any tabS 0 3 _).mono ?_
  rintro e w5 ⟨u, rfl, hF5, hK5⟩
  go_wp2_with fail
  refine (same_one _ u tabS 0 3 _ ((HG.out.keeps hK4 (by simp)).keeps hK5 (by simp)) (hE4.keeps hK5) hF5 (by omega) (by omega)).mono ?_
  rintro e w6 ⟨rfl, hK6⟩
  go_wp2_with fail
  refine (aw_end b rb _ ((hT4.keeps hK5 (by simp) (by simp)).keeps hK6 (by simp) (by simp))).mono ?_
  rintro e w7 ⟨rfl, hT7, hK7⟩
  have hK7 := ((hK4.trans hK5).trans hK6).drop hK7 hx
  go_wp2_with fail
  refine (aw_leave b rb _ hT7).mono ?_
  rintro e w8 ⟨rfl, hT8, hK8⟩
  have hK8 := hK7.drop hK8 hx
  go_wp2_with fail
  refine (aw_reap b rb _ hT8).mono ?_
  rintro e w9 ⟨rfl, hT9, hK9⟩
  have hK9 := hK8.drop hK9 hx
  go_wp2_with fail
  refine (aw_born3 b rb _ hT9).mono ?_
  rintro e w10 ⟨rfl, hT10, hK10⟩
  have hK10 := hK9.drop hK10 hx
  go_wp2_with fail
  go_ret
  exact ⟨rfl, hK10⟩
end Go.Proofs.YtghgfopcnaoaiaaDoor
