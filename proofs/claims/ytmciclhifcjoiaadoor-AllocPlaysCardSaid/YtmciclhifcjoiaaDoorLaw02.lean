/-
  Chapter 2's statements: Full, awake.
-/
import Derived.Test.YtmciclhifcjoiaaDoorMem4
namespace Go.Proofs.YtmciclhifcjoiaaDoor
open Go.RowKit

/-- n wide cells. -/
def MS.full (n : Nat) : MS := ⟨List.replicate n 64, List.replicate n 0, n, 0⟩

theorem full_eq (n : Nat) (hn : n ≤ 65536) : (MS.new n).map 0 n 64 = MS.full n := by
  have e1 : fill (List.replicate n 0) 0 64 n = List.replicate n 64 := by
    apply List.ext_getElem
    · simp [fill_length]
    · intro i h1 h2
      have h := fill_get (List.replicate n 0) 0 64 n i
      rw [if_pos (by simp at h2 ⊢; omega)] at h
      simp only [List.getD_eq_getElem?_getD, List.getElem?_eq_getElem h1, Option.getD_some] at h
      simpa using h
  have e2 : fill (List.replicate n 0) 0 0 n = List.replicate n 0 := by
    apply List.ext_getElem
    · simp [fill_length]
    · intro i h1 h2
      have h := fill_get (List.replicate n 0) 0 0 n i
      simp only [List.getD_eq_getElem?_getD, List.getElem?_eq_getElem h1, Option.getD_some] at h
      rw [h]
      simp at h2
      simp [h2]
  unfold MS.map MS.part MS.new MS.full
  simp only [Int.toNat_natCast, Int.toNat_zero, e1, e2]
  congr 1
  unfold wrap64
  omega

def FullPost (w : World) (n : Nat) (e : Ending) (w' : World) : Prop := ∃ b cb wb, e = .returned (.pointer (some ⟨b, 0, none⟩)) ∧ MemAt w' b cb wb (MS.full n) ∧ Keeps [] w w' ∧
  w.heap.size ≤ b ∧ w.heap.size ≤ cb ∧ w.heap.size ≤ wb

set_option maxHeartbeats 400000 in
theorem full_any (n : Nat) (w : World) (h1 : 1 ≤ n) (hn : n ≤ 65536) : Calls Tryd.prog 22 #[.int .i64 (n : Int)] w (FullPost w n) := by
  go_enter Tryd.func22, Tryd.ntmps22
  go_wp2_with fail
  refine (new_ok n _ h1 hn).mono ?_
  rintro e w1 ⟨b, cb, wb, rfl, hM, hK, hb, hcb, hwb⟩
  go_wp2_with fail
  refine (map_ok b cb wb _ 0 n w1 hM (by omega) (by omega) (by simp [MS.new]) 64 (.inr rfl) (by intro i hi; simp [MS.new, List.getD, List.getElem?_replicate]; split <;> rfl)).mono ?_
  rintro e w2 ⟨rfl, hM2, hK2⟩
  go_wp2_with fail
  go_ret
  rw [full_eq n hn] at hM2
  exact ⟨b, cb, wb, rfl, hM2, hK.drop hK2 (by intro x hx; simp at hx; omega), hb, hcb, hwb⟩

def aw0 : MS := ⟨[0, 0, 0, 0, 0, 0, 0, 0, 0], [0, 0, 0, 0, 0, 0, 0, 0, 0], 0, 0⟩
def aw1 : MS := ⟨[0, 0, 0, 32, 32, 0, 0, 0, 0], [0, 0, 0, 0, 0, 0, 0, 0, 0], 2, 0⟩
def aw2 : MS := ⟨[0, 0, 0, 32, 32, 0, 0, 0, 0], [0, 0, 0, 0, 5, 0, 0, 0, 0], 2, 1⟩
def aw3 : MS := ⟨[0, 0, 0, 32, 32, 0, 0, 0, 0], [0, 0, 0, 0, 5, 0, 0, 0, 0], 2, 2⟩
def aw4 : MS := ⟨[0, 0, 0, 32, 32, 0, 0, 0, 0], [0, 0, 0, 0, 9, 0, 0, 0, 0], 2, 3⟩
def aw5 : MS := ⟨[0, 0, 0, 32, 32, 0, 0, 0, 0], [0, 0, 0, 0, 9, 0, 0, 0, 0], 2, 4⟩
theorem aw0_eq : MS.new 9 = aw0 := by kernel_rfl
theorem aw1_eq : aw0.map 3 2 32 = aw1 := by kernel_rfl
theorem aw2_eq : aw1.put (4 : Int).toNat (cutI (aw1.width.getD (4 : Int).toNat 0) 4294967301) = aw2 := by kernel_rfl
theorem aw3_eq : aw2.tick = aw3 := by kernel_rfl
theorem aw4_eq : aw3.acc 4 4 5 9 = aw4 := by kernel_rfl
theorem aw5_eq : aw4.acc 4 4 5 1 = aw5 := by kernel_rfl

section
variable (b cb wb : Nat) (w : World)
theorem aw_map (hM : MemAt w b cb wb aw0) : Calls Tryd.prog 20 #[.pointer (some ⟨b, 0, none⟩), .int .i64 3, .int .i64 2, .int .i64 32] w fun e w' =>
    e = .returned .nilIface ∧ MemAt w' b cb wb aw1 ∧ Keeps [b, cb, wb] w w' :=
  aw1_eq ▸ map_ok b cb wb aw0 3 2 w hM (by omega) (by omega) (by simp [aw0]) 32 (.inl rfl) (by intro i hi; simp at hi; match i, hi with | 0, _ => rfl | 1, _ => rfl)
theorem aw_store (hM : MemAt w b cb wb aw1) : Calls Tryd.prog 24 #[.pointer (some ⟨b, 0, none⟩), .int .u64 4, .int .u64 4294967301] w fun e w' =>
    e = .returned .nilIface ∧ MemAt w' b cb wb aw2 ∧ Keeps [b, cb] w w' :=
  aw2_eq ▸ store_ok b cb wb aw1 4 4294967301 w hM (by omega) (by simp [aw1])
theorem aw_load (hM : MemAt w b cb wb aw2) : Calls Tryd.prog 26 #[.pointer (some ⟨b, 0, none⟩), .int .u64 4] w fun e w' =>
    e = .returned (.tuple #[.int .u64 5, .nilIface]) ∧ MemAt w' b cb wb aw3 ∧ Keeps [b, cb] w w' :=
  aw3_eq ▸ load_ok b cb wb aw2 4 w hM (by omega) (by simp [aw2])
theorem aw_cas1 (hM : MemAt w b cb wb aw3) : Calls Tryd.prog 48 #[.pointer (some ⟨b, 0, none⟩), .int .u64 4, .int .u64 5, .int .u64 9] w fun e w' =>
    e = .returned (.tuple #[.int .u64 5, .nilIface]) ∧ MemAt w' b cb wb aw4 ∧ Keeps [b, cb] w w' :=
  aw4_eq ▸ cas_ok b cb wb aw3 4 5 9 w hM (by omega) (by simp [aw3])
theorem aw_cas2 (hM : MemAt w b cb wb aw4) : Calls Tryd.prog 48 #[.pointer (some ⟨b, 0, none⟩), .int .u64 4, .int .u64 5, .int .u64 1] w fun e w' =>
    e = .returned (.tuple #[.int .u64 9, .nilIface]) ∧ MemAt w' b cb wb aw5 ∧ Keeps [b, cb] w w' :=
  aw5_eq ▸ cas_ok b cb wb aw4 4 5 1 w hM (by omega) (by simp [aw4])
end

set_option maxHeartbeats 1000000 in
theorem awake_any (w : World) : Calls Tryd.prog 17 #[] w fun e w' => e = .returned (.bool true) ∧ Keeps [] w w' := by
  go_enter Tryd.func17, Tryd.ntmps17
  go_wp2_with fail
  refine (new_ok 9 _ (by omega) (by omega)).mono ?_
  rintro e w1 ⟨b, cb, wb, rfl, hM, hK, hb, hcb, hwb⟩
  rw [aw0_eq] at hM
  go_wp2_with fail
  refine (aw_map b cb wb _ hM).mono ?_
  rintro e w2 ⟨rfl, hM2, hK2⟩
  go_wp2_with fail
  refine (aw_store b cb wb _ hM2).mono ?_
  rintro e w3 ⟨rfl, hM3, hK3⟩
  go_wp2_with fail
  refine (aw_load b cb wb _ hM3).mono ?_
  rintro e w4 ⟨rfl, hM4, hK4⟩
  go_wp2_with fail
  refine (aw_cas1 b cb wb _ hM4).mono ?_
  rintro e w5 ⟨rfl, hM5, hK5⟩
  go_wp2_with fail
  refine (aw_cas2 b cb wb _ hM5).mono ?_
  rintro e w6 ⟨rfl, hM6, hK6⟩
  go_wp2_with fail
  refine (count_any b cb wb aw5 _ hM6).mono ?_
  rintro e w7 ⟨rfl, rfl⟩
  go_wp2_with fail
  go_ret
  have hx : ∀ x, x ∈ [b, cb] → x ∈ ([] : List Nat) ∨ w.heap.size ≤ x := by intro x hx; simp at hx; omega
  refine ⟨rfl, ?_⟩
  exact ((((hK.drop hK2 (by intro x hx; simp at hx; omega)).drop hK3 hx).drop hK4 hx).drop hK5 hx).drop hK6 hx
end Go.Proofs.YtmciclhifcjoiaaDoor
