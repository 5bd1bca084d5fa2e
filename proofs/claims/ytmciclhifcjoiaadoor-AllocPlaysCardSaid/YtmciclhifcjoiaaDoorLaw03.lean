/-
  Chapter 3's statements: room, awake.
-/
import Derived.Test.YtmciclhifcjoiaaDoorAl6
namespace Go.Proofs.YtmciclhifcjoiaaDoor
open Go.RowKit

/-- A memory and its blocks, all of them newer than the block B. -/
structure Room (B : Nat) (w : World) (base ab b cb wb N : Nat) (lv : Value) (x : AS) (s : MS) : Prop where
  alloc : AllocAt w base ab b lv x
  mem : MemAt w b cb wb s
  inv : RInv N s x
  baseLe : base ≤ w.heap.size
  low : b < base ∧ cb < base ∧ wb < base ∧ ab ≠ b ∧ ab ≠ cb ∧ ab ≠ wb
  new : B ≤ b ∧ B ≤ cb ∧ B ≤ wb ∧ B ≤ ab ∧ B ≤ base

theorem Room.own {B : Nat} {w : World} {base ab b cb wb N : Nat} {lv : Value} {x : AS} {s : MS} (h : Room B w base ab b cb wb N lv x s) : ∀ z, z ∈ [ab, b, cb, wb] ++ lv.ownBlock.toList → B ≤ z ∧ z < w.heap.size := by
  intro z hz
  obtain ⟨n1, n2, n3, n4, n5⟩ := h.new
  have l1 := h.mem.lt
  have l2 := h.alloc.lt
  rcases List.mem_append.1 hz with hz | hz
  · simp at hz; omega
  · have h3 := World.ownsRow.lt h.alloc.2.2 z (by simpa using hz)
    omega

theorem Room.keeps {B : Nat} {w w' : World} {base ab b cb wb N : Nat} {lv : Value} {x : AS} {s : MS} (h : Room B w base ab b cb wb N lv x s) (hK : Keeps [] w w') : Room B w' base ab b cb wb N lv x s :=
  ⟨h.alloc.keeps hK (by simp) (by simp), h.mem.keeps hK (by simp) (by simp) (by simp), h.inv, Nat.le_trans h.baseLe hK.size, h.low, h.new⟩

/-- Get and Put in a room. -/
def RoomGet (B : Nat) (w : World) (base ab b cb wb N : Nat) (lv : Value) (x : AS) (s : MS) (n wd : Int) (e : Ending) (w' : World) : Prop :=
  ∃ (at_ : Int) (u lv' : Value) (x' : AS) (s' : MS), e = .returned (.tuple #[.int .i64 at_, u]) ∧ Room B w' base ab b cb wb N lv' x' s' ∧ Keeps ([ab, b, cb, wb] ++ lv.ownBlock.toList) w w' ∧
    (∀ g, lv'.ownBlock = some g → lv.ownBlock = some g ∨ w.heap.size ≤ g) ∧
    ((at_ = 0 ∧ lv' = lv ∧ x' = x ∧ s' = s ∧ (((n < 1 ∨ 4096 < n ∨ (wd ≠ 32 ∧ wd ≠ 64)) ∧ ErrNew w w' u [(allocS, 0)] 1) ∨ ((∀ i, i ≤ x.l.length → gapOf x.fr x.l x.til i < n) ∧ ErrNew w w' u [(allocS, 0)] 3))) ∨
      (u = .nilIface ∧ ∃ i, i ≤ x.l.length ∧ 1 ≤ n ∧ (wd = 32 ∨ wd = 64) ∧ n ≤ gapOf x.fr x.l x.til i ∧ (∀ j, j < i → gapOf x.fr x.l x.til j < n) ∧ at_ = endOf x.fr x.l i ∧ x' = x.ins i ⟨at_, n, wd⟩ ∧ s' = s.map at_ n wd))
theorem room_get {B : Nat} {w : World} {base ab b cb wb N : Nat} {lv : Value} {x : AS} {s : MS} (h : Room B w base ab b cb wb N lv x s) (n wd : Int) :
    Calls Tryd.prog 32 #[.pointer (some ⟨ab, 0, none⟩), .int .i64 n, .int .i64 wd] w (RoomGet B w base ab b cb wb N lv x s n wd) := by
  refine (get_r base ab b cb wb N lv x s n wd w h.alloc h.mem h.inv h.baseLe h.low).mono ?_
  rintro e w' ⟨at_, u, lv', x', s', he, q1, q2, q3, q4, q5, q6⟩
  exact ⟨at_, u, lv', x', s', he, ⟨q1, q2, q3, Nat.le_trans h.baseLe q4.size, h.low, h.new⟩, q4, q5, q6⟩

def RoomPut (B : Nat) (w : World) (base ab b cb wb N : Nat) (lv : Value) (x : AS) (s : MS) (p : Int) (e : Ending) (w' : World) : Prop :=
  ∃ (u lv' : Value) (x' : AS) (s' : MS), e = .returned u ∧ Room B w' base ab b cb wb N lv' x' s' ∧ Keeps ([ab, b, cb, wb] ++ lv.ownBlock.toList) w w' ∧ lv'.ownBlock = lv.ownBlock ∧
    ((x' = x ∧ s' = s ∧ (∀ (i : Nat) (r : Bk), x.l[i]? = some r → r.pos ≠ p) ∧ ErrNew w w' u [(allocS, p)] 4) ∨
      (u = .nilIface ∧ ∃ (i : Nat) (y : Bk), x.l[i]? = some y ∧ y.pos = p ∧ (∀ (j : Nat) (r : Bk), j < i → x.l[j]? = some r → r.pos ≠ p) ∧ x' = x.del i ∧ s' = s.unmap p y.n))
theorem room_put {B : Nat} {w : World} {base ab b cb wb N : Nat} {lv : Value} {x : AS} {s : MS} (h : Room B w base ab b cb wb N lv x s) (p : Int) :
    Calls Tryd.prog 33 #[.pointer (some ⟨ab, 0, none⟩), .int .i64 p] w (RoomPut B w base ab b cb wb N lv x s p) := by
  refine (put_r base ab b cb wb N lv x s p w h.alloc h.mem h.inv h.baseLe h.low).mono ?_
  rintro e w' ⟨u, lv', x', s', he, q1, q2, q3, q4, q5, q6⟩
  exact ⟨u, lv', x', s', he, ⟨q1, q2, q3, Nat.le_trans h.baseLe q4.size, h.low, h.new⟩, q4, q5, q6⟩

theorem rinv_new (N : Nat) (f t : Int) (hN : N ≤ 65536) (h0 : 0 ≤ f) (h1 : f ≤ t) (h2 : t ≤ N) : RInv N (MS.new N) ⟨f, t, []⟩ := by
  refine ⟨⟨⟨by simp [MS.new], by simpa [MS.new] using hN, ?_⟩, ?_, ?_⟩, by simp [MS.new], ⟨h0, by show t ≤ _; omega, h1, by simp⟩, h2, hN, ?_, by simp, rfl⟩
  · intro y hy
    simp [MS.new] at hy
    exact .inl hy.2
  · intro i
    by_cases hi : i < N <;> simp [MS.new, List.getD, hi]
  · show (0 : Int) = ((cnt (List.replicate N 0) : Nat) : Int)
    unfold cnt
    rw [List.countP_replicate, if_neg (by decide)]
    rfl
  · intro j _ hj
    have hj : (j : Int) < t := hj
    show (List.replicate N (0 : Int)).getD j 0 = 0
    simp [List.getD, show j < N by omega]

/-- alloc.New over a new memory. -/
theorem room_made {w1 w2 : World} {B b cb wb N : Nat} {f t : Int} (hN : N ≤ 65536) (h0 : 0 ≤ f) (h1 : f ≤ t) (h2 : t ≤ N) (hM : MemAt w1 b cb wb (MS.new N)) (hB : B ≤ w1.heap.size) (hb : B ≤ b) (hcb : B ≤ cb) (hwb : B ≤ wb)
    (hA : AllocAt w2 w2.heap.size w1.heap.size b (.slice none 0 0) ⟨f, t, []⟩) (hK : Keeps [] w1 w2) (hs : w2.heap.size = w1.heap.size + 1) : Room B w2 w2.heap.size w1.heap.size b cb wb N (.slice none 0 0) ⟨f, t, []⟩ (MS.new N) := by
  have l := hM.lt
  exact ⟨hA, hM.keeps hK (by simp) (by simp) (by simp), rinv_new N f t hN h0 h1 h2, Nat.le_refl _, by omega, by omega⟩

def RoomPost (w : World) (e : Ending) (w' : World) : Prop :=
  ∃ base ab b cb wb, e = .returned (.tuple #[.pointer (some ⟨b, 0, none⟩), .pointer (some ⟨ab, 0, none⟩)]) ∧ Room w.heap.size w' base ab b cb wb 100 (.slice none 0 0) ⟨0, 100, []⟩ (MS.new 100) ∧ Keeps [] w w'

set_option maxHeartbeats 1000000 in
theorem room_any (w : World) : Calls Tryd.prog 31 #[] w (RoomPost w) := by
  go_enter Tryd.func31, Tryd.ntmps31
  go_wp2_with fail
  refine (new_ok 100 _ (by omega) (by omega)).mono ?_
  rintro e w1 ⟨b, cb, wb, rfl, hM, hK, hb, hcb, hwb⟩
  go_wp2_with fail
  refine (anew_ok b 0 100 _ (by omega) (by omega)).mono ?_
  rintro e w2 ⟨rfl, hA, hK2, hs⟩
  go_wp2_with fail
  go_ret2
  exact ⟨_, _, b, cb, wb, rfl, room_made (by omega) (by omega) (by omega) (by omega) hM hK.size hb hcb hwb hA hK2 hs, hK.trans hK2⟩

section
variable {B : Nat} {w w' : World} {base ab b cb wb : Nat} {lv : Value} {s : MS} {e : Ending}

theorem aw3_get1 (h : RoomGet B w base ab b cb wb 40 lv ⟨10, 20, []⟩ s 4 64 e w') : e = .returned (.tuple #[.int .i64 10, .nilIface]) ∧ ∃ lv' s', Room B w' base ab b cb wb 40 lv' ⟨10, 20, [⟨10, 4, 64⟩]⟩ s' ∧ Keeps ([ab, b, cb, wb] ++ lv.ownBlock.toList) w w' := by
  obtain ⟨at_, u, lv', x', s', rfl, q1, q2, q3, ⟨_, _, _, _, h1 | h1⟩ | ⟨rfl, i, hi, _, _, _, _, rfl, rfl, rfl⟩⟩ := h
  · omega
  · have := h1.1 0 (by simp)
    simp [gapOf, startOf, endOf] at this
  · obtain rfl : i = 0 := by simpa using hi
    exact ⟨rfl, lv', _, q1, q2⟩
theorem aw3_get2 (h : RoomGet B w base ab b cb wb 40 lv ⟨10, 20, [⟨10, 4, 64⟩]⟩ s 6 32 e w') : e = .returned (.tuple #[.int .i64 14, .nilIface]) ∧ ∃ lv' s', Room B w' base ab b cb wb 40 lv' ⟨10, 20, [⟨10, 4, 64⟩, ⟨14, 6, 32⟩]⟩ s' ∧ Keeps ([ab, b, cb, wb] ++ lv.ownBlock.toList) w w' := by
  obtain ⟨at_, u, lv', x', s', rfl, q1, q2, q3, ⟨_, _, _, _, h1 | h1⟩ | ⟨rfl, i, hi, _, _, hg, _, rfl, rfl, rfl⟩⟩ := h
  · omega
  · have := h1.1 1 (by simp)
    simp [gapOf, startOf, endOf] at this
  · have hi : i ≤ 1 := hi
    match i, hi with
    | 0, _ => simp [gapOf, startOf, endOf] at hg
    | 1, _ => exact ⟨rfl, lv', _, q1, q2⟩
theorem aw3_get3 (h : RoomGet B w base ab b cb wb 40 lv ⟨10, 20, [⟨10, 4, 64⟩, ⟨14, 6, 32⟩]⟩ s 1 64 e w') : ∃ u, e = .returned (.tuple #[.int .i64 0, u]) ∧ ErrNew w w' u [(allocS, 0)] 3 ∧ ∃ s', Room B w' base ab b cb wb 40 lv ⟨10, 20, [⟨10, 4, 64⟩, ⟨14, 6, 32⟩]⟩ s' ∧ Keeps ([ab, b, cb, wb] ++ lv.ownBlock.toList) w w' := by
  obtain ⟨at_, u, lv', x', s', rfl, q1, q2, q3, ⟨rfl, rfl, rfl, rfl, h1 | h1⟩ | ⟨rfl, i, hi, _, _, hg, _, rfl, rfl, rfl⟩⟩ := h
  · omega
  · exact ⟨u, rfl, h1.2, _, q1, q2⟩
  · have hi : i ≤ 2 := hi
    match i, hi with
    | 0, _ => simp [gapOf, startOf, endOf] at hg
    | 1, _ => simp [gapOf, startOf, endOf] at hg
    | 2, _ => simp [gapOf, startOf, endOf] at hg
theorem aw3_put (h : RoomPut B w base ab b cb wb 40 lv ⟨10, 20, [⟨10, 4, 64⟩, ⟨14, 6, 32⟩]⟩ s 10 e w') : e = .returned .nilIface ∧ ∃ lv' s', Room B w' base ab b cb wb 40 lv' ⟨10, 20, [⟨14, 6, 32⟩]⟩ s' ∧ Keeps ([ab, b, cb, wb] ++ lv.ownBlock.toList) w w' ∧ lv'.ownBlock = lv.ownBlock := by
  obtain ⟨u, lv', x', s', rfl, q1, q2, q3, ⟨_, _, h1, _⟩ | ⟨rfl, i, y, hi, hy, hb, rfl, rfl⟩⟩ := h
  · exact absurd rfl (h1 0 ⟨10, 4, 64⟩ rfl)
  · have hl : i < 2 := (List.getElem?_eq_some_iff.1 hi).1
    match i, hl with
    | 0, _ => exact ⟨rfl, lv', _, q1, q2, q3⟩
    | 1, _ => simp at hi; subst hi; simp at hy
theorem aw3_get4 (h : RoomGet B w base ab b cb wb 40 lv ⟨10, 20, [⟨14, 6, 32⟩]⟩ s 2 64 e w') : e = .returned (.tuple #[.int .i64 10, .nilIface]) ∧ ∃ lv' s', Room B w' base ab b cb wb 40 lv' ⟨10, 20, [⟨10, 2, 64⟩, ⟨14, 6, 32⟩]⟩ s' ∧ Keeps ([ab, b, cb, wb] ++ lv.ownBlock.toList) w w' := by
  obtain ⟨at_, u, lv', x', s', rfl, q1, q2, q3, ⟨_, _, _, _, h1 | h1⟩ | ⟨rfl, i, hi, _, _, hg, hb, rfl, rfl, rfl⟩⟩ := h
  · omega
  · have := h1.1 0 (by simp)
    simp [gapOf, startOf, endOf] at this
  · have hi : i ≤ 1 := hi
    match i, hi with
    | 0, _ => exact ⟨rfl, lv', _, q1, q2⟩
    | 1, _ => have := hb 0 (by omega); simp [gapOf, startOf, endOf] at this
end

theorem allocS_eq : (⟨#[97, 108, 108, 111, 99]⟩ : ByteArray) = allocS := rfl

set_option maxRecDepth 100000 in
set_option maxHeartbeats 2000000 in
theorem awake3_any (w : World) (hg : GV w) : Calls Tryd.prog 35 #[] w fun e w' => e = .returned (.bool true) ∧ Keeps [] w w' := by
  have HG := hid hg
  clear hg
  go_enter Tryd.func35, Tryd.ntmps35
  go_wp2_with fail
  refine (new_ok 40 _ (by omega) (by omega)).mono ?_
  rintro e w1 ⟨b, cb, wb, rfl, hM, hK, hb, hcb, hwb⟩
  go_wp2_with fail
  refine (anew_ok b 10 20 _ (by omega) (by omega)).mono ?_
  rintro e w2 ⟨rfl, hA, hK2, hs⟩
  have hR : Room w.heap.size w2 w2.heap.size w1.heap.size b cb wb 40 (.slice none 0 0) ⟨10, 20, []⟩ (MS.new 40) := room_made (by omega) (by omega) (by omega) (by omega) hM hK.size hb hcb hwb hA hK2 hs
  have HK := hid (hK.trans hK2)
  clear hM hA hK hK2 hb hcb hwb hs
  generalize w2.heap.size = base at *
  generalize w1.heap.size = ab at *
  have HR := hid hR
  clear hR
  go_wp2_with fail
  refine (room_get HR.out 4 64).mono ?_
  intro e w3 h
  obtain ⟨rfl, lv3, s3, hR3, hK3⟩ := aw3_get1 h
  have HK3 := hid (HK.out.drop hK3 (fun z hz => Or.inr (HR.out.own z hz).1))
  have HR3 := hid hR3
  clear hR3 h hK3
  go_wp2_with fail
  refine (room_get HR3.out 6 32).mono ?_
  intro e w4 h
  obtain ⟨rfl, lv4, s4, hR4, hK4⟩ := aw3_get2 h
  have HK4 := hid (HK3.out.drop hK4 (fun z hz => Or.inr (HR3.out.own z hz).1))
  have HR4 := hid hR4
  clear hR4 h hK4
  go_wp2_with fail
  refine (room_get HR4.out 1 64).mono ?_
  intro e w5 h
  obtain ⟨u, rfl, hE, s5, hR5, hK5⟩ := aw3_get3 h
  have HK5 := hid (HK4.out.drop hK5 (fun z hz => Or.inr (HR4.out.own z hz).1))
  have HE := hid hE
  have HR5 := hid hR5
  clear hR5 h hK5 hE
  go_wp2_with fail
  refine (room_put HR5.out 10).mono ?_
  intro e w6 h
  obtain ⟨rfl, lv6, s6, hR6, hK6, hO6⟩ := aw3_put h
  have HK6 := hid (HK5.out.drop hK6 (fun z hz => Or.inr (HR5.out.own z hz).1))
  have HE6 := hid hK6
  have HO6 := hid hO6
  have HR6 := hid hR6
  clear hR6 h hK6 hO6
  go_wp2_with fail
  refine (room_get HR6.out 2 64).mono ?_
  intro e w7 h
  obtain ⟨rfl, lv7, s7, hR7, hK7⟩ := aw3_get4 h
  have HK7 := hid (HK6.out.drop hK7 (fun z hz => Or.inr (HR6.out.own z hz).1))
  have HE7 : Hid (ErrAt w7 u [(allocS, 0)] 3) := hid (HE.out.2 _ w7 (HE6.out.trans (by rw [← HO6.out]; exact hK7)) (fun z hz => (HR4.out.own z hz).2))
  obtain ⟨T, y, rfl⟩ := HE.out.1
  clear h hK7 hR7
  go_wp2_with fail
  refine (no_any allocS 0 3 _).mono ?_
  rintro e w8 ⟨v, rfl, hF, hK8⟩
  have HK8 := hid (HK7.out.trans hK8)
  go_wp2_with fail
  refine (same_one _ v allocS 0 3 _ (HG.out.keeps HK8.out (by simp)) (ErrAt.keeps hK8 HE7.out) hF (by omega) (by omega)).mono ?_
  rintro e w9 ⟨rfl, hK9⟩
  go_wp2_with fail
  go_ret
  exact ⟨rfl, HK8.out.trans hK9⟩
end Go.Proofs.YtmciclhifcjoiaaDoor
