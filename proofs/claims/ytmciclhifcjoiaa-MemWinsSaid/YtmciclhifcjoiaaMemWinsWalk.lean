/-
  MemWins: the walk of the statement's own function out of the contracts of mem.
-/
import Derived.Test.YtmciclhifcjoiaaLaw02
import Derived.OpenShut
namespace Go.Proofs.Ytmciclhifcjoiaa
open Go.RowKit

/-- A slice of numbers that came in. -/
def RowIn (k : IntKind) (w : World) (a : Option Addr) (len cap : Nat) (zs : List Int) : Prop :=
  (a = none ∧ len = 0 ∧ cap = 0 ∧ zs = []) ∨
  ∃ x, a = some x ∧ len ≤ cap ∧ cap ≤ maxLen ∧ zs.length = cap ∧ (∀ i, i < zs.length → w.cell? (x.add i) = some (.int k (zs.getD i 0))) ∧ ∀ n ∈ zs, (Lit.int k n).wf = true

theorem cut64 (v : Int) : cutI 64 v = v := by simp [cutI]

def wins (was l0 : Int) (k : Nat) : MS := ⟨[64, 64], [if k = 0 then was else l0, 0], 2, (k : Int) + 1⟩

theorem wins_store (was l0 : Int) : (MS.full 2).put (0 : Int).toNat (cutI ((MS.full 2).width.getD (0 : Int).toNat 0) was) = wins was l0 0 := by
  have h : (MS.full 2).width.getD (0 : Int).toNat 0 = 64 := rfl
  rw [h, cut64]
  have h1 : wrap64 1 = 1 := by kernel_rfl
  simp [MS.put, MS.full, wins, List.replicate, h1]

theorem wrap_count {k : Nat} (hk : k ≤ 200) : wrap64 ((k : Int) + 1 + 1) = ((k + 1 : Nat) : Int) + 1 := by
  unfold wrap64
  omega

theorem wins_cas (was l0 lk : Int) (k : Nat) (hk : k ≤ 200) (h0 : k = 0 → lk = l0) (hne : l0 ≠ was) : (wins was l0 k).acc 4 0 was lk = wins was l0 (k + 1) := by
  have hw : (wins was l0 k).width.getD (0 : Int).toNat 0 = 64 := rfl
  by_cases hz : k = 0
  · subst hz
    rw [MS.acc_cas_yes _ _ _ _ (by rw [hw, cut64]; simp [wins]), hw, cut64, h0 rfl]
    have := wrap_count (k := 0) (by omega)
    simp only [wins, MS.put] at this ⊢
    congr 1
  · rw [MS.acc_cas_no _ _ _ _ (by rw [hw, cut64]; simpa [wins, hz] using hne)]
    have := wrap_count hk
    simp only [wins, MS.tick, this]
    simp [hz]

theorem wins_hold (was l0 : Int) (k : Nat) : (wins was l0 k).hold.getD (0 : Int).toNat 0 = if k = 0 then was else l0 := rfl

section
variable (b cb wb : Nat) (was l0 : Int) (w : World)
theorem wins_store_calls (hM : MemAt w b cb wb (MS.full 2)) : Calls Try.prog 7 #[.pointer (some ⟨b, 0, none⟩), .int .u64 0, .int .u64 was] w fun e w' =>
    e = .returned .nilIface ∧ MemAt w' b cb wb (wins was l0 0) ∧ Keeps [b, cb] w w' :=
  wins_store was l0 ▸ store_ok b cb wb (MS.full 2) 0 was w hM (by omega) (by simp [MS.full])
theorem wins_cas_calls (lk : Int) (k : Nat) (hk : k ≤ 200) (h0 : k = 0 → lk = l0) (hne : l0 ≠ was) (hM : MemAt w b cb wb (wins was l0 k)) :
    Calls Try.prog 9 #[.pointer (some ⟨b, 0, none⟩), .int .u64 0, .int .u64 was, .int .u64 lk] w fun e w' =>
      e = .returned (.tuple #[.int .u64 (if k = 0 then was else l0), .nilIface]) ∧ MemAt w' b cb wb (wins was l0 (k + 1)) ∧ Keeps [b, cb] w w' :=
  wins_cas was l0 lk k hk h0 hne ▸ wins_hold was l0 k ▸ cas_ok b cb wb (wins was l0 k) 0 was lk w hM (by omega) (by simp [wins])
theorem wins_load_calls (k : Nat) (hk : k ≠ 0) (hM : MemAt w b cb wb (wins was l0 k)) :
    Calls Try.prog 10 #[.pointer (some ⟨b, 0, none⟩), .int .u64 0] w fun e w' =>
      e = .returned (.tuple #[.int .u64 l0, .nilIface]) ∧ MemAt w' b cb wb (wins was l0 k).tick ∧ Keeps [b, cb] w w' := by
  have h := load_ok b cb wb (wins was l0 k) 0 w hM (by omega) (by simp [wins])
  rw [wins_hold, if_neg hk] at h
  exact h
end

/-- The ways that end at once. -/
theorem memWins_short (was : Int) (a1 : Option Addr) (len cap : Nat) (w : World) (h : len = 0 ∨ (100 < len ∧ len ≤ maxLen) ∨ (0 < len ∧ len ≤ 100 ∧ ∃ b off, a1 = some ⟨b, off, none⟩ ∧ w.cell? ⟨b, off, none⟩ = some (.int .u64 was))) :
    Calls Try.prog 3 #[.int .u64 was, .slice a1 len cap] w fun e w' => e = .returned (.bool true) ∧ Below w.heap.size w w' := by
  unfold maxLen at h
  rcases h with rfl | ⟨h1, h2⟩ | ⟨h1, h2, xb, xo, rfl, hc⟩
  · go_enter Try.func3, Try.ntmps3
    go_wp2_with fail
    refine (full_any 2 _ (by omega) (by omega)).mono ?_
    rintro e w1 ⟨b, cb, wb, rfl, hM, hK, hb, hcb, hwb⟩
    go_wp2_with fail
    refine (awake_any _).mono ?_
    rintro e w2 ⟨rfl, hK2⟩
    go_wp2_with fail
    go_ret
    exact ⟨rfl, (hK.trans hK2).below (Nat.le_refl _) (by simp)⟩
  · have d1 : ((len : Int) == 0) = false := by simp; omega
    have d2 : decide ((100 : Int) < (len : Int)) = true := by simp; omega
    go_enter Try.func3, Try.ntmps3
    go_wp2_with fail
    refine (full_any 2 _ (by omega) (by omega)).mono ?_
    rintro e w1 ⟨b, cb, wb, rfl, hM, hK, hb, hcb, hwb⟩
    go_wp2_with fail
    refine (awake_any _).mono ?_
    rintro e w2 ⟨rfl, hK2⟩
    go_wp2_with fail
    go_ret
    exact ⟨rfl, (hK.trans hK2).below (Nat.le_refl _) (by simp)⟩
  · have d1 : ((len : Int) == 0) = false := by simp; omega
    have d2 : decide ((100 : Int) < (len : Int)) = false := by simp; omega
    have hp : 0 < len := h1
    go_enter Try.func3, Try.ntmps3
    go_wp2_with fail
    refine (full_any 2 _ (by omega) (by omega)).mono ?_
    rintro e w1 ⟨b, cb, wb, rfl, hM, hK, hb, hcb, hwb⟩
    have hc1 := (hK.cell (p := ⟨xb, xo, none⟩) (lt_of_cell hc) (by simp)).trans hc
    go_wp2_with fail
    refine (awake_any _).mono ?_
    rintro e w2 ⟨rfl, hK2⟩
    go_wp2_with fail
    go_ret
    exact ⟨rfl, (hK.trans hK2).below (Nat.le_refl _) (by simp)⟩

set_option maxHeartbeats 1000000 in
theorem memWins_long (was : Int) (xb xo : Nat) (len cap : Nat) (zs : List Int) (w : World) (h1 : 0 < len) (h2 : len ≤ 100) (hz : len ≤ zs.length) (hne : zs.getD 0 0 ≠ was)
    (hc : ∀ j, j < zs.length → w.cell? ⟨xb, xo + j, none⟩ = some (.int .u64 (zs.getD j 0))) :
    Calls Try.prog 3 #[.int .u64 was, .slice (some ⟨xb, xo, none⟩) len cap] w fun e w' => e = .returned (.bool true) ∧ Below w.heap.size w w' := by
  have hx : xb < w.heap.size := lt_of_cell (hc 0 (by omega))
  have hc0 : w.cell? ⟨xb, xo, none⟩ = some (.int .u64 (zs.getD 0 0)) := hc 0 (by omega)
  have d1 : ((len : Int) == 0) = false := by simp; omega
  have d2 : decide ((100 : Int) < (len : Int)) = false := by simp; omega
  have d3 : (zs.getD 0 0 == was) = false := beq_eq_false_iff_ne.2 hne
  have HC := hid hc
  clear hc
  generalize hl : zs.getD 0 0 = l0 at *
  have HL := hid hl
  clear hl
  go_enter Try.func3, Try.ntmps3
  go_wp2_with fail
  refine (full_any 2 _ (by omega) (by omega)).mono ?_
  rintro e w1 ⟨b, cb, wb, rfl, hM, hK, hb, hcb, hwb⟩
  have hc1 := (hK.cell (p := ⟨xb, xo, none⟩) hx (by simp)).trans hc0
  go_wp2_with fail
  refine (wins_store_calls b cb wb was l0 _ hM).mono ?_
  rintro e w2 ⟨rfl, hM2, hK2⟩
  go_wp2_with fail
  go_loopw [6] (fun i wr => ∃ k : Nat, k ≤ len ∧ i = .int .i64 k ∧ MemAt wr b cb wb (wins was l0 k) ∧ Keeps [] w wr) (fun i _ => (len - (intOf i).toNat))
  case atStart => exact ⟨0, by omega, rfl, hM2, hK.drop hK2 (by intro x hx; simp at hx; omega)⟩
  case round =>
    obtain ⟨k, hk, rfl, hR, hKR⟩ := hrel
    by_cases hlt : k < len
    · have hck := (hKR.cell (p := ⟨xb, xo + k, none⟩) hx (by simp)).trans (HC.out k (by omega))
      have h0k : k = 0 → zs.getD k 0 = l0 := fun h => h ▸ HL.out
      have H0K := hid h0k
      clear h0k
      generalize zs.getD k 0 = lk at *
      go_wp2_with fail
      refine (wins_cas_calls b cb wb was l0 _ lk k (by omega) H0K.out hne hR).mono ?_
      rintro e w3 ⟨rfl, hM3, hK3⟩
      have hv : ((if k = 0 then was else l0) == was) = decide ((k : Int) = 0) := by
        by_cases hz : k = 0
        · subst hz; simp
        · rw [if_neg hz]; simp [hz, hne]
      generalize (if k = 0 then was else l0) = v at *
      have hv2 : ((k : Int) == 0) = decide ((k : Int) = 0) := rfl
      generalize decide ((k : Int) = 0) = q at *
      go_wp2_with fail
      go_roundw
      case rel => exact ⟨k + 1, by omega, by go_num, hM3, hKR.drop hK3 (by intro x hx; simp at hx; omega)⟩
      case measure => simp [intOf]; omega
    · obtain rfl : k = len := by omega
      have hc1 := (hKR.cell (p := ⟨xb, xo, none⟩) hx (by simp)).trans hc0
      go_wp2_with fail
      refine (wins_load_calls b cb wb was l0 _ k (by omega) hR).mono ?_
      rintro e w3 ⟨rfl, hM3, hK3⟩
      have hc2 := (hK3.cell (p := ⟨xb, xo, none⟩) (lt_of_cell hc1) (by simp; omega)).trans hc1
      go_wp2_with fail
      refine (awake_any _).mono ?_
      rintro e w4 ⟨rfl, hK4⟩
      go_wp2_with fail
      go_ret
      exact ⟨rfl, ((hKR.drop hK3 (by intro x hx; simp at hx; omega)).trans hK4).below (Nat.le_refl _) (by simp)⟩

/-- Whatever comes in. -/
theorem memWins_walk (was : Int) (a1 : Option Addr) (len cap : Nat) (zs : List Int) (w : World) (_w0 : (Lit.int .u64 was).wf = true) (w1 : RowIn .u64 w a1 len cap zs) :
    Calls Try.prog 3 #[.int .u64 was, .slice a1 len cap] w fun e w' => e = .returned (.bool true) ∧ Below w.heap.size w w' := by
  rcases w1 with ⟨rfl, rfl, rfl, rfl⟩ | ⟨x, rfl, hl, hm, hz, hcell, _⟩
  · exact memWins_short was none 0 0 w (.inl rfl)
  · by_cases h0 : len = 0
    · exact memWins_short was _ len cap w (.inl h0)
    · by_cases h1 : 100 < len
      · exact memWins_short was _ len cap w (.inr (.inl ⟨h1, by omega⟩))
      · obtain ⟨xb, xo, rfl, hc⟩ := ints_at hcell (by omega)
        by_cases hne : zs.getD 0 0 = was
        · exact memWins_short was _ len cap w (.inr (.inr ⟨by omega, by omega, xb, xo, rfl, hne ▸ hc 0 (by omega)⟩))
        · exact memWins_long was xb xo len cap zs w (by omega) (by omega) (by omega) hne hc
end Go.Proofs.Ytmciclhifcjoiaa
