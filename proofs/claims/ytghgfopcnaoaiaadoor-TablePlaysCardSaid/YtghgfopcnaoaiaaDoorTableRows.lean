/-
  One thread in a table of some places: its contracts by the row. (Printed by gen_life.py.)
-/
import Derived.Test.YtghgfopcnaoaiaaDoorLaw11
import Derived.Test.YtghgfopcnaoaiaaDoorRowIn
namespace Go.Proofs.YtghgfopcnaoaiaaDoor
open Go.RowKit

/-- A table whose first place has the thread 64, the others none. -/
def lf (n : Nat) (st home value joiner : Int) (reaped loose stepping : Bool) : List TRow := ⟨1, true, reaped, 64, st, home, value, joiner, loose, stepping⟩ :: tNew n
/-- ... behind its thread's end. -/
def lg (n : Nat) : List TRow := ⟨1, false, false, 0, 0, 0, 0, 0, false, false⟩ :: tNew n

theorem tNew_threads (n : Nat) : threads (tNew n) = [] := by
  unfold threads tNew
  rw [List.filter_eq_nil_iff]
  intro r hr
  rw [List.eq_of_mem_replicate hr]
  simp [zrow]
theorem lg_threads (n : Nat) : threads (lg n) = [] := tNew_threads n

theorem len_form {w : World} {base size : Nat} {e : TypeId} {v : Value} {n : Nat} {xs : List Value} (h : w.ownsRow base e size v n xs) : ∃ a cap, v = .slice a n cap := by
  rcases h.2 with ⟨rfl, rfl⟩ | ⟨g, cap, cur, rfl, _⟩
  · exact ⟨none, 0, rfl⟩
  · exact ⟨_, cap, rfl⟩

theorem born_id : IntKind.u64.wrap ((0 : Nat) + IntKind.u64.wrap (64 * IntKind.u64.wrap (zrow.times + 1))) = 64 := by kernel_rfl
theorem born_times : IntKind.u64.wrap (zrow.times + 1) = 1 := by kernel_rfl

section
variable (b rb n : Nat) (st home value joiner : Int) (reaped loose stepping : Bool) (w : World)
theorem lf_born (hT : TableAt w b rb (tNew (n + 1))) : Calls Tryd.prog 14 #[.pointer (some ⟨b, 0, none⟩), .int .u64 home] w (BornPost w b rb 64 (lf n 1 home 0 0 false false false)) := by
  have e : bornRow zrow 0 home = ⟨1, true, false, 64, 1, home, 0, 0, false, false⟩ := by
    unfold bornRow
    rw [born_id, born_times]
    rfl
  have h := born_ok b rb (tNew (n + 1)) 0 zrow home w hT rfl rfl (by intro j q hj; omega)
  rw [e] at h
  exact h
theorem lf_status (k : Int) (hk : statusF (lf n st home value joiner reaped loose stepping) 64 = k) (hT : TableAt w b rb (lf n st home value joiner reaped loose stepping)) : Calls Tryd.prog 22 #[.pointer (some ⟨b, 0, none⟩), .int .u64 64] w fun e w' => e = .returned (.int .i64 k) ∧ w = w' :=
  hk ▸ status_any b rb _ 64 w hT (by omega)
theorem lf_look (hT : TableAt w b rb (lf n st home value joiner reaped loose stepping)) : Calls Tryd.prog 21 #[.pointer (some ⟨b, 0, none⟩), .int .u64 64] w fun e w' =>
    e = .returned (.tuple #[.agg #[.int .u64 64, .int .i64 st, .int .u64 home, .int .u64 value, .int .u64 joiner, .bool loose, .bool stepping], .bool true]) ∧ Keeps [] w w' :=
  look_any b rb (lf n st home value joiner reaped loose stepping) 64 w hT (by omega)
theorem lg_status (hT : TableAt w b rb (lg n)) : Calls Tryd.prog 22 #[.pointer (some ⟨b, 0, none⟩), .int .u64 64] w fun e w' => e = .returned (.int .i64 0) ∧ w = w' :=
  status_any b rb (lg n) 64 w hT (by omega)
theorem lg_look (hT : TableAt w b rb (lg n)) : Calls Tryd.prog 21 #[.pointer (some ⟨b, 0, none⟩), .int .u64 64] w fun e w' =>
    e = .returned (.tuple #[.agg #[.int .u64 0, .int .i64 0, .int .u64 0, .int .u64 0, .int .u64 0, .bool false, .bool false], .bool false]) ∧ Keeps [] w w' :=
  look_any b rb (lg n) 64 w hT (by omega)
theorem lg_all (hT : TableAt w b rb (lg n)) : Calls Tryd.prog 13 #[.pointer (some ⟨b, 0, none⟩)] w fun e w' =>
    (∃ a cap, e = .returned (.slice a 0 cap)) ∧ Keeps [] w w' := by
  refine (all_any b rb _ w hT).mono ?_
  rintro e w' ⟨v, rfl, hown, hK⟩
  rw [lg_threads] at hown
  obtain ⟨a, cap, rfl⟩ := len_form hown
  exact ⟨⟨a, cap, rfl⟩, hK⟩
theorem l_be (l l' : List TRow) (k x : Int) (hk : beF l 64 x = (k, l')) (hT : TableAt w b rb l) : Calls Tryd.prog 20 #[.pointer (some ⟨b, 0, none⟩), .int .u64 64, .int .i64 x] w (OpPost w b rb (k, l')) := hk ▸ be_any b rb l 64 x w hT (by omega)
theorem l_join (l l' : List TRow) (k x : Int) (hk : joinF l 64 x = (k, l')) (hT : TableAt w b rb l) : Calls Tryd.prog 23 #[.pointer (some ⟨b, 0, none⟩), .int .u64 64, .int .u64 x] w (OpPost w b rb (k, l')) := hk ▸ join_any b rb l 64 x w hT (by omega)
theorem l_loose (l l' : List TRow) (k : Int) (hk : looseF l 64 = (k, l')) (hT : TableAt w b rb l) : Calls Tryd.prog 16 #[.pointer (some ⟨b, 0, none⟩), .int .u64 64] w (OpPost w b rb (k, l')) := hk ▸ loose_any b rb l 64 w hT (by omega)
theorem l_end (l l' : List TRow) (k x : Int) (hk : endF l 64 x = (k, l')) (hT : TableAt w b rb l) : Calls Tryd.prog 18 #[.pointer (some ⟨b, 0, none⟩), .int .u64 64, .int .u64 x] w (OpPost w b rb (k, l')) := hk ▸ end_any b rb l 64 x w hT (by omega)
theorem l_leave (l l' : List TRow) (k : Int) (hk : leaveF l 64 = (k, l')) (hT : TableAt w b rb l) : Calls Tryd.prog 19 #[.pointer (some ⟨b, 0, none⟩), .int .u64 64] w (OpPost w b rb (k, l')) := hk ▸ leave_any b rb l 64 w hT (by omega)
theorem l_reap (l l' : List TRow) (r : ReapR) (hk : reapF l 64 = (r, l')) (hT : TableAt w b rb l) : Calls Tryd.prog 17 #[.pointer (some ⟨b, 0, none⟩), .int .u64 64] w (ReapPost w b rb (r, l')) := hk ▸ reap_any b rb l 64 w hT (by omega)
end
theorem ReapPost.bad {w w' : World} {b rb : Nat} {a c : Int} {f : Bool} {k : Int} {l' : List TRow} {e : Ending} (hk : k ≠ 0) (h : ReapPost w b rb (⟨a, c, f, k⟩, l') e w') :
    ∃ T x, e = .returned (.tuple #[.int .u64 a, .int .u64 c, .bool f, .iface T x]) ∧ ErrAt w' (.iface T x) [(tabS, 0)] k ∧ TableAt w' b rb l' ∧ Keeps [rb] w w' := by
  obtain ⟨v, he, hE, hT, hK⟩ := h
  simp only [errOf, if_neg hk] at hE
  obtain ⟨T, x, rfl⟩ := ErrAt.iface hE
  exact ⟨T, x, he, hE, hT, hK⟩
theorem Blk.type {w : World} {b : Nat} {c d : Array Value} {t u : TypeId} (h : Blk w b c t) (k : Blk w b d u) : t = u := by
  unfold Blk at h k
  rw [h] at k
  cases k
  rfl
theorem FailAt.over {w w' : World} {b rb : Nat} {rows : List TRow} {v : Value} {l : List (ByteArray × Int)} {k : Int} (f : FailAt w v l k) (hT : TableAt w b rb rows) (h : Keeps [rb] w w') : FailAt w' v l k := by
  obtain ⟨b, lb, nb, c1, c2, sc, nc, hv, h1, h2, h3, h4⟩ := f
  refine ⟨b, lb, nb, c1, c2, sc, nc, hv, h1.keeps h ?_, h2.keeps h ?_, h3.keeps h ?_, h4⟩
  · intro hm; simp at hm; subst hm; exact absurd (h1.type hT.2.1) (by decide)
  · intro hm; simp at hm; subst hm; exact absurd (h2.type hT.2.1) (by decide)
  · intro hm; simp at hm; subst hm; exact absurd (h3.type hT.2.1) (by decide)
end Go.Proofs.YtghgfopcnaoaiaaDoor
