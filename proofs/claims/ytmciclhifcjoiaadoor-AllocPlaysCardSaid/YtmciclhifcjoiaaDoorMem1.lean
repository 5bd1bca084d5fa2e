/-
  The package mem: what a memory is in the heap ('MemAt'), an error in the heap ('ErrAt'), and the contracts of word.Cut, word.Sum, Width, fail, access and the accesses that hit a cell that is there.
-/
import Derived.Test.YtmciclhifcjoiaaDoorBase
import Derived.Deep.QuietTactic
import Derived.BigQuiet
import Derived.Deep.RegionWith
namespace Go.Proofs.YtmciclhifcjoiaaDoor
open Go.RowKit

/-- What word.Cut answers, word.Sum. -/
def cutI (k v : Int) : Int := if k = 32 then bits BinOp.and IntKind.u64 v 4294967295 else if k = 64 then v else 0
def sumI (k a b : Int) : Int := cutI k (IntKind.u64.wrap (cutI k a + cutI k b))

/-- A memory: of each cell its width and what it holds; how many are there; how many accesses were done. -/
structure MS where
  width : List Int
  hold : List Int
  there : Int
  count : Int

structure MS.ok (s : MS) : Prop where
  len : s.hold.length = s.width.length
  most : s.width.length ≤ 65536
  widths : ∀ x, x ∈ s.width → x = 0 ∨ x = 32 ∨ x = 64

def MemAt (w : World) (b cb wb : Nat) (s : MS) : Prop :=
  Blk w b #[.slice (some ⟨cb, 0, none⟩) s.width.length s.width.length, .slice (some ⟨wb, 0, none⟩) s.width.length s.width.length, .int .i64 s.there, .int .i64 s.count] 88 ∧
  Blk w cb (ints .u64 s.hold) 35 ∧ Blk w wb (ints .u8 s.width) 5 ∧ b ≠ cb ∧ b ≠ wb ∧ cb ≠ wb ∧ s.ok

theorem MemAt.drew {w : World} {b cb wb : Nat} {s : MS} (h : MemAt w b cb wb s) : MemAt w.drew b cb wb s := h
theorem MemAt.alloc {w : World} {b cb wb : Nat} {s : MS} (h : MemAt w b cb wb s) (o : Obj) : MemAt (w.alloc o) b cb wb s :=
  ⟨h.1.alloc o, h.2.1.alloc o, h.2.2.1.alloc o, h.2.2.2⟩
theorem MemAt.keeps {S : List Nat} {w w' : World} {b cb wb : Nat} {s : MS} (h : MemAt w b cb wb s) (k : Keeps S w w') (h1 : b ∉ S) (h2 : cb ∉ S) (h3 : wb ∉ S) : MemAt w' b cb wb s :=
  ⟨h.1.keeps k h1, h.2.1.keeps k h2, h.2.2.1.keeps k h3, h.2.2.2⟩
theorem MemAt.lt {w : World} {b cb wb : Nat} {s : MS} (h : MemAt w b cb wb s) : b < w.heap.size ∧ cb < w.heap.size ∧ wb < w.heap.size := ⟨h.1.lt, h.2.1.lt, h.2.2.1.lt⟩

theorem MS.ok.at {s : MS} (h : s.ok) (i : Nat) : s.width.getD i 0 = 0 ∨ s.width.getD i 0 = 32 ∨ s.width.getD i 0 = 64 := by
  by_cases hi : i < s.width.length
  · have := h.widths (s.width.getD i 0) (by simp [List.getD, hi])
    exact this
  · left; simp [List.getD, Nat.le_of_not_lt hi]

/-- An access that hits: what becomes of the memory. Kinds: 0 load, 1 store, 2 swap, 3 add, 4 cas. -/
def MS.acc (s : MS) (kind at_ old v : Int) : MS :=
  let k := s.width.getD at_.toNat 0
  let held := s.hold.getD at_.toNat 0
  { s with
    count := wrap64 (s.count + 1)
    hold := if kind = 3 then s.hold.set at_.toNat (sumI k held v)
      else if kind = 4 then (if held = cutI k old then s.hold.set at_.toNat (cutI k v) else s.hold)
      else if kind = 1 ∨ kind = 2 then s.hold.set at_.toNat (cutI k v) else s.hold }

theorem ret_int {k : IntKind} {a b : Int} (h : a = b) : Ending.returned (.int k a) = .returned (.int k b) := by rw [h]

set_option maxHeartbeats 400000 in
theorem cut_any (k v : Int) (w : World) :
    Calls Tryd.prog 70 #[.int .i64 k, .int .u64 v] w fun e w' => e = .returned (.int .u64 (cutI k v)) ∧ w = w' := by
  have H : ∀ x : Int, x = cutI k v → Ending.returned (.int .u64 x) = .returned (.int .u64 (cutI k v)) := fun x h => by rw [h]
  have H := hid H
  by_cases h32 : k = 32
  · subst h32
    go_enter Tryd.func70, Tryd.ntmps70
    go_wp2
    go_ret
    exact ⟨H.out _ (by simp [cutI]), rfl⟩
  · have b32 : (k == 32) = false := beq_eq_false_iff_ne.2 h32
    by_cases h64 : k = 64
    · subst h64
      go_enter Tryd.func70, Tryd.ntmps70
      go_wp2
      go_ret
      exact ⟨H.out _ (by simp [cutI]), rfl⟩
    · have b64 : (k == 64) = false := beq_eq_false_iff_ne.2 h64
      go_enter Tryd.func70, Tryd.ntmps70
      go_wp2
      go_ret
      exact ⟨H.out _ (by simp [cutI, h32, h64]), rfl⟩

set_option maxHeartbeats 400000 in
theorem sum_any (k a b : Int) (w : World) :
    Calls Tryd.prog 69 #[.int .i64 k, .int .u64 a, .int .u64 b] w fun e w' => e = .returned (.int .u64 (sumI k a b)) ∧ w = w' := by
  have H : ∀ x : Int, x = sumI k a b → Ending.returned (.int .u64 x) = .returned (.int .u64 (sumI k a b)) := fun x h => by rw [h]
  have H := hid H
  go_enter Tryd.func69, Tryd.ntmps69
  go_wp2_with fail
  refine (cut_any _ _ _).mono ?_
  rintro e w' ⟨rfl, rfl⟩
  go_wp2_with fail
  refine (cut_any _ _ _).mono ?_
  rintro e w' ⟨rfl, rfl⟩
  go_wp2_with fail
  refine (cut_any _ _ _).mono ?_
  rintro e w' ⟨rfl, rfl⟩
  go_wp2_with fail
  go_ret
  exact ⟨H.out _ rfl, rfl⟩

set_option maxHeartbeats 400000 in
theorem width_any (b cb wb : Nat) (s : MS) (a : Int) (w : World) (hM : MemAt w b cb wb s) (h0 : 0 ≤ a) :
    Calls Tryd.prog 21 #[.pointer (some ⟨b, 0, none⟩), .int .u64 a] w fun e w' => e = .returned (.int .i64 (s.width.getD a.toNat 0)) ∧ w = w' := by
  have hok := hM.2.2.2.2.2.2
  have hn := hok.most
  have hc0 := hM.1.cell (i := 0) rfl
  have hc1 := hM.1.cell (i := 1) rfl
  generalize hL : s.width.length = n at *
  have HL := hid hL
  by_cases h1 : a < (n : Int)
  · have hlt : a.toNat < s.width.length := by omega
    have hx := hM.2.2.1.cell (ints_get hlt)
    have hv := hok.at a.toNat
    generalize s.width.getD a.toNat 0 = x at *
    have hx0 : 0 ≤ x := by omega
    have hx1 : x < 256 := by omega
    clear hv hL
    go_enter Tryd.func21, Tryd.ntmps21
    go_wp2
    go_ret
    exact ⟨rfl, rfl⟩
  · have hd : s.width.getD a.toNat 0 = 0 := by simp [List.getD, show s.width.length ≤ a.toNat by omega]
    rw [hd]
    clear hd hL
    go_enter Tryd.func21, Tryd.ntmps21
    go_wp2
    go_ret
    exact ⟨rfl, rfl⟩


/-- The layer's name. -/
def memS : ByteArray := ⟨#[109, 101, 109]⟩

set_option maxHeartbeats 400000 in
theorem fail_any (n : Int) (t : TypeId) (u : Value) (w : World) :
    Calls Tryd.prog 45 #[.int .i64 n, .iface t u] w fun e w' => e = .returned (.iface 93 (.pointer (some ⟨w.heap.size, 0, none⟩))) ∧ w.alloc (.cells #[.string memS, .int .i64 n, .iface t u] 97) = w' := by
  go_enter Tryd.func45, Tryd.ntmps45
  go_wp2
  go_ret
  exact ⟨rfl, rfl⟩

/-- An access that writes; one that does not. -/
def MS.put (s : MS) (i : Nat) (v : Int) : MS := { s with count := wrap64 (s.count + 1), hold := s.hold.set i v }
def MS.tick (s : MS) : MS := { s with count := wrap64 (s.count + 1) }

theorem MS.acc_load (s : MS) (a o v : Int) : s.acc 0 a o v = s.tick := by simp [MS.acc, MS.tick]
theorem MS.acc_store (s : MS) (a o v : Int) : s.acc 1 a o v = s.put a.toNat (cutI (s.width.getD a.toNat 0) v) := by simp [MS.acc, MS.put]
theorem MS.acc_swap (s : MS) (a o v : Int) : s.acc 2 a o v = s.put a.toNat (cutI (s.width.getD a.toNat 0) v) := by simp [MS.acc, MS.put]
theorem MS.acc_add (s : MS) (a o v : Int) : s.acc 3 a o v = s.put a.toNat (sumI (s.width.getD a.toNat 0) (s.hold.getD a.toNat 0) v) := by simp [MS.acc, MS.put]
theorem MS.acc_cas_yes (s : MS) (a o v : Int) (h : s.hold.getD a.toNat 0 = cutI (s.width.getD a.toNat 0) o) : s.acc 4 a o v = s.put a.toNat (cutI (s.width.getD a.toNat 0) v) := by
  unfold MS.acc MS.put
  simp only [if_pos h]
  simp
theorem MS.acc_cas_no (s : MS) (a o v : Int) (h : ¬ s.hold.getD a.toNat 0 = cutI (s.width.getD a.toNat 0) o) : s.acc 4 a o v = s.tick := by
  unfold MS.acc MS.tick
  simp only [if_neg h]
  simp

theorem post_tick {w : World} {b cb wb : Nat} {s : MS} (hM : MemAt w b cb wb s) :
    MemAt (w.setCell ⟨b, 3, none⟩ (.int .i64 (wrap64 (s.count + 1)))) b cb wb s.tick ∧ Keeps [b, cb] w (w.setCell ⟨b, 3, none⟩ (.int .i64 (wrap64 (s.count + 1)))) := by
  obtain ⟨h0, h1, h2, hbc, hbw, hcw, hok⟩ := hM
  exact ⟨⟨h0.set 3 _, h1.other (by simpa using hbc) _, h2.other (by simpa using hbw) _, hbc, hbw, hcw, hok.len, hok.most, hok.widths⟩, (Keeps.refl _ _).set (by simp) _⟩

theorem post_put {w : World} {b cb wb : Nat} {s : MS} (hM : MemAt w b cb wb s) (i : Nat) (v : Int) :
    MemAt ((w.setCell ⟨b, 3, none⟩ (.int .i64 (wrap64 (s.count + 1)))).setCell ⟨cb, i, none⟩ (.int .u64 v)) b cb wb (s.put i v) ∧
      Keeps [b, cb] w ((w.setCell ⟨b, 3, none⟩ (.int .i64 (wrap64 (s.count + 1)))).setCell ⟨cb, i, none⟩ (.int .u64 v)) := by
  obtain ⟨h0, h1, h2, hbc, hbw, hcw, hok⟩ := hM
  refine ⟨⟨(h0.set 3 _).other (by simpa using hbc.symm) _, ?_, (h2.other (by simpa using hbw) _).other (by simpa using hcw) _, hbc, hbw, hcw, ?_, hok.most, hok.widths⟩, ((Keeps.refl _ _).set (by simp) _).set (by simp) _⟩
  · have h := (h1.other (a := ⟨b, 3, none⟩) (by simpa using hbc) (.int .i64 (wrap64 (s.count + 1)))).set i (.int .u64 v)
    rw [ints_set] at h
    exact h
  · show (s.hold.set i v).length = s.width.length
    rw [List.length_set]
    exact hok.len

section
variable (b cb wb : Nat) (s : MS) (a o v : Int) (w : World) (hM : MemAt w b cb wb s) (h0 : 0 ≤ a) (hw : s.width.getD a.toNat 0 ≠ 0)
include hM h0 hw

omit h0 in
/-- What the walk of an access wants to know. -/
theorem access_facts : ∃ (n : Nat) (x wd : Int), w.cell? ⟨b, 0, none⟩ = some (.slice (some ⟨cb, 0, none⟩) n n) ∧ w.cell? ⟨b, 3, none⟩ = some (.int .i64 s.count) ∧
    w.frozen? ⟨b, 3, none⟩ = false ∧ w.cell? ⟨cb, a.toNat, none⟩ = some (.int .u64 x) ∧ w.frozen? ⟨cb, a.toNat, none⟩ = false ∧ n ≤ 65536 ∧ a.toNat < n ∧ (wd == 0) = false ∧ b ≠ cb ∧
    Hid (s.hold.getD a.toNat 0 = x) ∧ Hid (s.width.getD a.toNat 0 = wd) := by
  have hok := hM.2.2.2.2.2.2
  have hlen := hok.len
  have h1 : a.toNat < s.width.length := by
    rcases Nat.lt_or_ge a.toNat s.width.length with h | h
    · exact h
    · exact absurd (by simp [List.getD, h]) hw
  exact ⟨s.width.length, _, _, hM.1.cell (i := 0) rfl, hM.1.cell (i := 3) rfl, hM.1.frozen 3, hM.2.1.cell (ints_get (by omega)), hM.2.1.frozen _, hok.most, h1, beq_eq_false_iff_ne.2 hw, hM.2.2.2.1, hid rfl, hid rfl⟩

set_option maxHeartbeats 1000000 in
theorem access_load : Calls Tryd.prog 50 #[.pointer (some ⟨b, 0, none⟩), .int .i64 0, .int .u64 a, .int .u64 o, .int .u64 v] w fun e w' =>
      e = .returned (.tuple #[.int .u64 (s.hold.getD a.toNat 0), .nilIface]) ∧ MemAt w' b cb wb (s.acc 0 a o v) ∧ Keeps [b, cb] w w' := by
  obtain ⟨n, x, wd, hc0, hc3, hf3, hx, hfx, hn, h1, hwd, hbc, HX, HK⟩ := access_facts b cb wb s a w hM hw
  rw [HX.out, MS.acc_load]
  go_enter Tryd.func50, Tryd.ntmps50
  go_wp2_with fail
  refine (width_any b cb wb s a _ hM h0).mono ?_
  rintro e w' ⟨rfl, rfl⟩
  rw [HK.out]
  go_wp2_with fail
  go_ret2
  exact ⟨rfl, post_tick hM⟩

set_option maxHeartbeats 1000000 in
theorem access_store : Calls Tryd.prog 50 #[.pointer (some ⟨b, 0, none⟩), .int .i64 1, .int .u64 a, .int .u64 o, .int .u64 v] w fun e w' =>
      e = .returned (.tuple #[.int .u64 (s.hold.getD a.toNat 0), .nilIface]) ∧ MemAt w' b cb wb (s.acc 1 a o v) ∧ Keeps [b, cb] w w' := by
  obtain ⟨n, x, wd, hc0, hc3, hf3, hx, hfx, hn, h1, hwd, hbc, HX, HK⟩ := access_facts b cb wb s a w hM hw
  rw [MS.acc_store, HX.out, HK.out]
  go_enter Tryd.func50, Tryd.ntmps50
  go_wp2_with fail
  refine (width_any b cb wb s a _ hM h0).mono ?_
  rintro e w' ⟨rfl, rfl⟩
  rw [HK.out]
  go_wp2_with fail
  go_region_with (go_at_call 70; refine (cut_any _ _ _).mono ?_; rintro e w' ⟨rfl, rfl⟩)
  all_goals go_wp2
  all_goals go_ret2
  all_goals exact ⟨rfl, (post_put hM _ _).1.drew, (post_put hM _ _).2.drew⟩

set_option maxHeartbeats 1000000 in
theorem access_swap : Calls Tryd.prog 50 #[.pointer (some ⟨b, 0, none⟩), .int .i64 2, .int .u64 a, .int .u64 o, .int .u64 v] w fun e w' =>
      e = .returned (.tuple #[.int .u64 (s.hold.getD a.toNat 0), .nilIface]) ∧ MemAt w' b cb wb (s.acc 2 a o v) ∧ Keeps [b, cb] w w' := by
  obtain ⟨n, x, wd, hc0, hc3, hf3, hx, hfx, hn, h1, hwd, hbc, HX, HK⟩ := access_facts b cb wb s a w hM hw
  rw [MS.acc_swap, HX.out, HK.out]
  go_enter Tryd.func50, Tryd.ntmps50
  go_wp2_with fail
  refine (width_any b cb wb s a _ hM h0).mono ?_
  rintro e w' ⟨rfl, rfl⟩
  rw [HK.out]
  go_wp2_with fail
  go_region_with (go_at_call 70; refine (cut_any _ _ _).mono ?_; rintro e w' ⟨rfl, rfl⟩)
  all_goals go_wp2
  all_goals go_ret2
  all_goals exact ⟨rfl, (post_put hM _ _).1.drew, (post_put hM _ _).2.drew⟩

set_option maxHeartbeats 1000000 in
theorem access_add : Calls Tryd.prog 50 #[.pointer (some ⟨b, 0, none⟩), .int .i64 3, .int .u64 a, .int .u64 o, .int .u64 v] w fun e w' =>
      e = .returned (.tuple #[.int .u64 (s.hold.getD a.toNat 0), .nilIface]) ∧ MemAt w' b cb wb (s.acc 3 a o v) ∧ Keeps [b, cb] w w' := by
  obtain ⟨n, x, wd, hc0, hc3, hf3, hx, hfx, hn, h1, hwd, hbc, HX, HK⟩ := access_facts b cb wb s a w hM hw
  rw [MS.acc_add, HX.out, HK.out]
  go_enter Tryd.func50, Tryd.ntmps50
  go_wp2_with fail
  refine (width_any b cb wb s a _ hM h0).mono ?_
  rintro e w' ⟨rfl, rfl⟩
  rw [HK.out]
  go_wp2_with fail
  go_region_with (go_at_call 69; refine (sum_any _ _ _ _).mono ?_; rintro e w' ⟨rfl, rfl⟩)
  all_goals go_wp2
  all_goals go_ret2
  all_goals exact ⟨rfl, (post_put hM _ _).1.drew, (post_put hM _ _).2.drew⟩

set_option maxHeartbeats 1000000 in
theorem access_cas : Calls Tryd.prog 50 #[.pointer (some ⟨b, 0, none⟩), .int .i64 4, .int .u64 a, .int .u64 o, .int .u64 v] w fun e w' =>
      e = .returned (.tuple #[.int .u64 (s.hold.getD a.toNat 0), .nilIface]) ∧ MemAt w' b cb wb (s.acc 4 a o v) ∧ Keeps [b, cb] w w' := by
  obtain ⟨n, x, wd, hc0, hc3, hf3, hx, hfx, hn, h1, hwd, hbc, HX, HK⟩ := access_facts b cb wb s a w hM hw
  by_cases hq : s.hold.getD a.toNat 0 = cutI (s.width.getD a.toNat 0) o
  · rw [MS.acc_cas_yes _ _ _ _ hq, HX.out, HK.out]
    rw [HX.out, HK.out] at hq
    have hq1 : (x != cutI wd o) = false := by simp [hq]
    clear hq
    go_enter Tryd.func50, Tryd.ntmps50
    go_wp2_with fail
    refine (width_any b cb wb s a _ hM h0).mono ?_
    rintro e w' ⟨rfl, rfl⟩
    rw [HK.out]
    go_wp2_with fail
    refine (cut_any _ _ _).mono ?_
    rintro e w' ⟨rfl, rfl⟩
    go_wp2_with fail
    go_region_with (go_at_call 70; refine (cut_any _ _ _).mono ?_; rintro e w' ⟨rfl, rfl⟩)
    all_goals go_wp2
    all_goals go_ret2
    all_goals exact ⟨rfl, (post_put hM _ _).1.drew, (post_put hM _ _).2.drew⟩
  · rw [MS.acc_cas_no _ _ _ _ hq, HX.out]
    rw [HX.out, HK.out] at hq
    have hq1 : (x != cutI wd o) = true := by simp [hq]
    clear hq
    go_enter Tryd.func50, Tryd.ntmps50
    go_wp2_with fail
    refine (width_any b cb wb s a _ hM h0).mono ?_
    rintro e w' ⟨rfl, rfl⟩
    rw [HK.out]
    go_wp2_with fail
    refine (cut_any _ _ _).mono ?_
    rintro e w' ⟨rfl, rfl⟩
    go_wp2_with fail
    go_ret2
    exact ⟨rfl, post_tick hM⟩
end

end Go.Proofs.YtmciclhifcjoiaaDoor
