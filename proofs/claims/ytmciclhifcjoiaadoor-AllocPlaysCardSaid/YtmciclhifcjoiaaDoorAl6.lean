/-
  The package alloc over a memory that holds its blocks and nothing else in its room: what Get and Put answer, and what they leave.
-/
import Derived.Test.YtmciclhifcjoiaaDoorAl5
namespace Go.Proofs.YtmciclhifcjoiaaDoor
open Go.RowKit

/-- How wide the cell j is by the blocks; how many cells they have. -/
def wdAt : List Bk → Int → Int
  | [], _ => 0
  | b :: l, j => if b.pos ≤ j ∧ j < b.pos + b.n then b.wd else wdAt l j
def used : List Bk → Int
  | [] => 0
  | b :: l => b.n + used l

theorem used_append (l m : List Bk) : used (l ++ m) = used l + used m := by
  induction l with
  | nil => simp [used]
  | cons b l ih => simp [used, ih]; omega

theorem wdAt_low {l : List Bk} {t j : Int} : ∀ {a : Int}, Chain a l t → j < a → wdAt l j = 0 := by
  induction l with
  | nil => intro a _ _; rfl
  | cons b l ih =>
    intro a h hj
    obtain ⟨h1, h2, h3⟩ := h
    unfold wdAt
    rw [if_neg (by omega)]
    exact ih h3 (by omega)

theorem endOf_cons (a : Int) (b : Bk) (l : List Bk) (k : Nat) : endOf a (b :: l) (k + 1) = endOf (b.pos + b.n) l k := by
  cases k with
  | zero => simp [endOf]
  | succ k => simp [endOf]
theorem startOf_cons (b : Bk) (l : List Bk) (t : Int) (k : Nat) : startOf (b :: l) t (k + 1) = startOf l t k := by
  unfold startOf
  by_cases hj : k = l.length
  · rw [if_pos (by simp [hj]), if_pos hj]
  · rw [if_neg (by simp; omega), if_neg hj]; simp
theorem gapOf_cons (a : Int) (b : Bk) (l : List Bk) (t : Int) (k : Nat) : gapOf a (b :: l) t (k + 1) = gapOf (b.pos + b.n) l t k := by
  unfold gapOf
  rw [endOf_cons, startOf_cons]

theorem chain_ins {l : List Bk} {t n wd : Int} : ∀ {a : Int} {i : Nat}, Chain a l t → i ≤ l.length → 1 ≤ n → n ≤ gapOf a l t i → Chain a (l.take i ++ (⟨endOf a l i, n, wd⟩ :: l.drop i)) t := by
  induction l with
  | nil =>
    intro a i h hi h1 hg
    obtain rfl : i = 0 := by simpa using hi
    have h : a ≤ t := h
    simp [gapOf, startOf, endOf] at hg
    show a ≤ a ∧ 1 ≤ n ∧ a + n ≤ t
    omega
  | cons b l ih =>
    intro a i h hi h1 hg
    obtain ⟨h2, h3, h4⟩ := h
    cases i with
    | zero =>
      simp [gapOf, startOf, endOf] at hg
      show a ≤ a ∧ 1 ≤ n ∧ a + n ≤ b.pos ∧ 1 ≤ b.n ∧ Chain (b.pos + b.n) l t
      exact ⟨Int.le_refl _, h1, by omega, h3, h4⟩
    | succ k =>
      rw [gapOf_cons] at hg
      rw [endOf_cons]
      exact ⟨h2, h3, ih h4 (by simpa using hi) h1 hg⟩

theorem chain_wide {l : List Bk} {t : Int} : ∀ {a a' : Int}, Chain a l t → a' ≤ a → Chain a' l t := by
  cases l with
  | nil => intro a a' h ha; exact Int.le_trans ha h
  | cons b l => intro a a' h ha; exact ⟨Int.le_trans ha h.1, h.2.1, h.2.2⟩

theorem chain_del {l : List Bk} {t : Int} : ∀ {a : Int} {i : Nat}, Chain a l t → i < l.length → Chain a (l.take i ++ l.drop (i + 1)) t := by
  induction l with
  | nil => intro a i h hi; simp at hi
  | cons b l ih =>
    intro a i h hi
    obtain ⟨h2, h3, h4⟩ := h
    cases i with
    | zero => exact chain_wide h4 (by omega)
    | succ k => exact ⟨h2, h3, ih h4 (by simpa using hi)⟩

theorem wdAt_ins {l : List Bk} {t n wd j : Int} : ∀ {a : Int} {i : Nat}, Chain a l t → i ≤ l.length → wdAt (l.take i ++ (⟨endOf a l i, n, wd⟩ :: l.drop i)) j = if endOf a l i ≤ j ∧ j < endOf a l i + n then wd else wdAt l j := by
  induction l with
  | nil =>
    intro a i h hi
    obtain rfl : i = 0 := by simpa using hi
    rfl
  | cons b l ih =>
    intro a i h hi
    obtain ⟨h2, h3, h4⟩ := h
    cases i with
    | zero => rfl
    | succ k =>
      have hk : k ≤ l.length := by simpa using hi
      have hg := h4.gap hk
      rw [endOf_cons]
      show (if b.pos ≤ j ∧ j < b.pos + b.n then b.wd else wdAt (l.take k ++ (⟨endOf (b.pos + b.n) l k, n, wd⟩ :: l.drop k)) j) = if _ then wd else (if b.pos ≤ j ∧ j < b.pos + b.n then b.wd else wdAt l j)
      rw [ih h4 hk]
      by_cases hc : b.pos ≤ j ∧ j < b.pos + b.n
      · rw [if_pos hc, if_neg (by omega), if_pos hc]
      · rw [if_neg hc, if_neg hc]

theorem wdAt_del {l : List Bk} {t j : Int} : ∀ {a : Int} {i : Nat} {y : Bk}, Chain a l t → l[i]? = some y → wdAt (l.take i ++ l.drop (i + 1)) j = if y.pos ≤ j ∧ j < y.pos + y.n then 0 else wdAt l j := by
  induction l with
  | nil => intro a i y h hi; simp at hi
  | cons b l ih =>
    intro a i y h hi
    obtain ⟨h2, h3, h4⟩ := h
    cases i with
    | zero =>
      simp at hi
      subst hi
      show wdAt l j = if _ then 0 else (if b.pos ≤ j ∧ j < b.pos + b.n then b.wd else wdAt l j)
      by_cases hc : b.pos ≤ j ∧ j < b.pos + b.n
      · rw [if_pos hc]; exact wdAt_low h4 hc.2
      · rw [if_neg hc, if_neg hc]
    | succ k =>
      have hi' : l[k]? = some y := by simpa using hi
      have he := h4.elem hi'
      show (if b.pos ≤ j ∧ j < b.pos + b.n then b.wd else wdAt (l.take k ++ l.drop (k + 1)) j) = if _ then 0 else (if b.pos ≤ j ∧ j < b.pos + b.n then b.wd else wdAt l j)
      rw [ih h4 hi']
      by_cases hc : b.pos ≤ j ∧ j < b.pos + b.n
      · rw [if_pos hc, if_neg (by omega), if_pos hc]
      · rw [if_neg hc, if_neg hc]

theorem wdAt_gap {l : List Bk} {t j : Int} : ∀ {a : Int} {i : Nat}, Chain a l t → i ≤ l.length → endOf a l i ≤ j → j < startOf l t i → wdAt l j = 0 := by
  induction l with
  | nil => intro a i _ _ _ _; rfl
  | cons b l ih =>
    intro a i h hi h1 h2
    obtain ⟨g1, g2, g3⟩ := h
    cases i with
    | zero =>
      have : startOf (b :: l) t 0 = b.pos := by simp [startOf]
      rw [this] at h2
      unfold wdAt
      rw [if_neg (by omega)]
      exact wdAt_low g3 (by omega)
    | succ k =>
      rw [endOf_cons] at h1
      rw [startOf_cons] at h2
      have hg := g3.gap (i := k) (by simpa using hi)
      unfold wdAt
      rw [if_neg (by omega)]
      exact ih g3 (by simpa using hi) h1 h2

theorem wdAt_in {l : List Bk} {t j : Int} : ∀ {a : Int} {i : Nat} {y : Bk}, Chain a l t → l[i]? = some y → y.pos ≤ j → j < y.pos + y.n → wdAt l j = y.wd := by
  induction l with
  | nil => intro a i y h hi; simp at hi
  | cons b l ih =>
    intro a i y h hi h1 h2
    obtain ⟨g1, g2, g3⟩ := h
    cases i with
    | zero =>
      simp at hi
      subst hi
      unfold wdAt
      rw [if_pos ⟨h1, h2⟩]
    | succ k =>
      have hi' : l[k]? = some y := by simpa using hi
      have he := g3.elem hi'
      unfold wdAt
      rw [if_neg (by omega)]
      exact ih g3 hi' h1 h2

theorem chain_len (l : List Bk) : ∀ (a t : Int), Chain a l t → a + l.length ≤ t := by
  induction l with
  | nil => intro a t h; have h : a ≤ t := h; simpa using h
  | cons b l ih => intro a t h; have := ih _ _ h.2.2; have := h.1; have := h.2.1; simp; omega

theorem used_range (l : List Bk) : ∀ (a t : Int), Chain a l t → 0 ≤ used l ∧ a + used l ≤ t := by
  induction l with
  | nil => intro a t h; have h : a ≤ t := h; simpa [used] using h
  | cons b l ih => intro a t h; have := ih _ _ h.2.2; have := h.1; have := h.2.1; simp [used]; omega

/-- The memory holds the blocks, and nothing else in their room. -/
structure RInv (N : Nat) (s : MS) (x : AS) : Prop where
  good : s.good
  len : s.width.length = N
  ok : x.ok
  til : x.til ≤ N
  most : N ≤ 65536
  cells : ∀ j : Nat, x.fr ≤ (j : Int) → (j : Int) < x.til → s.width.getD j 0 = wdAt x.l j
  wds : ∀ b, b ∈ x.l → b.wd = 32 ∨ b.wd = 64
  there : s.there = used x.l

theorem first_gap (a : Int) (l : List Bk) (t n : Int) : ∀ m : Nat, (∀ i, i < m → gapOf a l t i < n) ∨ ∃ i, i < m ∧ n ≤ gapOf a l t i ∧ ∀ j, j < i → gapOf a l t j < n
  | 0 => Or.inl (fun i hi => by omega)
  | m + 1 => by
    rcases first_gap a l t n m with h | ⟨i, h1, h2, h3⟩
    · by_cases hq : n ≤ gapOf a l t m
      · exact Or.inr ⟨m, by omega, hq, h⟩
      · refine Or.inl (fun i hi => ?_)
        rcases Nat.lt_or_ge i m with h4 | h4
        · exact h i h4
        · obtain rfl : i = m := by omega
          omega
    · exact Or.inr ⟨i, by omega, h2, h3⟩

theorem first_pos (l : List Bk) (p : Int) : (∀ (i : Nat) (r : Bk), l[i]? = some r → r.pos ≠ p) ∨ ∃ (i : Nat) (y : Bk), l[i]? = some y ∧ y.pos = p ∧ ∀ (j : Nat) (r : Bk), j < i → l[j]? = some r → r.pos ≠ p := by
  induction l with
  | nil => exact Or.inl (fun i r h => by simp at h)
  | cons b l ih =>
    by_cases hb : b.pos = p
    · exact Or.inr ⟨0, b, rfl, hb, fun j r hj => by omega⟩
    · rcases ih with h | ⟨i, y, h1, h2, h3⟩
      · refine Or.inl (fun i r hr => ?_)
        cases i with
        | zero => simp at hr; subst hr; exact hb
        | succ k => exact h k r (by simpa using hr)
      · refine Or.inr ⟨i + 1, y, by simpa using h1, h2, fun j r hj hr => ?_⟩
        cases j with
        | zero => simp at hr; subst hr; exact hb
        | succ k => exact h3 k r (by omega) (by simpa using hr)

theorem RInv.gapCells {N : Nat} {s : MS} {x : AS} (h : RInv N s x) {i : Nat} {n : Int} (hi : i ≤ x.l.length) (h1 : 1 ≤ n) (hg : n ≤ gapOf x.fr x.l x.til i) :
    0 ≤ endOf x.fr x.l i ∧ endOf x.fr x.l i + n ≤ s.width.length ∧ endOf x.fr x.l i + n ≤ x.til ∧ allAre s.width false (endOf x.fr x.l i) n.toNat := by
  have hc := h.ok.chain.gap hi
  have hl := h.ok.lo
  have ht := h.til
  have hn := h.len
  unfold gapOf at hg
  refine ⟨by omega, by omega, by omega, fun k hk => ?_⟩
  have e : ((endOf x.fr x.l i).toNat + k : Nat) = (endOf x.fr x.l i + k).toNat := by omega
  rw [e, h.cells _ (by omega) (by omega), wdAt_gap h.ok.chain hi (by omega) (by omega)]
  rfl

theorem RInv.ins {N : Nat} {s : MS} {x : AS} (h : RInv N s x) {i : Nat} {n wd : Int} (hi : i ≤ x.l.length) (h1 : 1 ≤ n) (hw : wd = 32 ∨ wd = 64) (hg : n ≤ gapOf x.fr x.l x.til i) :
    RInv N (s.map (endOf x.fr x.l i) n wd) (x.ins i ⟨endOf x.fr x.l i, n, wd⟩) := by
  obtain ⟨c1, c2, c3, c4⟩ := h.gapCells hi h1 hg
  have hch := chain_ins (wd := wd) h.ok.chain hi h1 hg
  have hlen := chain_len _ _ _ hch
  have hlo := h.ok.lo
  have ht := h.til
  have hm := h.most
  have hu := used_range _ _ _ h.ok.chain
  refine ⟨good_map h.good _ n wd c1 h1 c2 hw c4, by simp [MS.map, MS.part, fill_length, h.len], ⟨h.ok.lo, h.ok.hi, hch, ?_⟩, h.til, h.most, ?_, ?_, ?_⟩
  · show (x.l.take i ++ (_ :: x.l.drop i)).length ≤ 100000
    omega
  · intro j hj1 hj2
    show (fill s.width (endOf x.fr x.l i).toNat wd n.toNat).getD j 0 = wdAt (x.l.take i ++ (⟨endOf x.fr x.l i, n, wd⟩ :: x.l.drop i)) j
    have hj2 : (j : Int) < x.til := hj2
    have hl := h.len
    rw [fill_get, wdAt_ins h.ok.chain hi]
    by_cases hc : endOf x.fr x.l i ≤ (j : Int) ∧ (j : Int) < endOf x.fr x.l i + n
    · rw [if_pos hc, if_pos (by omega)]
    · rw [if_neg hc, if_neg (by omega)]
      exact h.cells j hj1 hj2
  · intro b hb
    have hb : b ∈ x.l.take i ++ (⟨endOf x.fr x.l i, n, wd⟩ :: x.l.drop i) := hb
    rcases List.mem_append.1 hb with hb | hb
    · exact h.wds b (List.mem_of_mem_take hb)
    · rcases List.mem_cons.1 hb with rfl | hb
      · exact hw
      · exact h.wds b (List.mem_of_mem_drop hb)
  · show wrap64 (s.there + n) = used (x.l.take i ++ (⟨endOf x.fr x.l i, n, wd⟩ :: x.l.drop i))
    have e : used x.l = used (x.l.take i) + used (x.l.drop i) := by rw [← used_append, List.take_append_drop]
    have hu2 := used_range _ _ _ hch
    rw [used_append] at hu2 ⊢
    simp only [used] at hu2 ⊢
    rw [h.there, e]
    unfold wrap64
    omega

theorem RInv.blockCells {N : Nat} {s : MS} {x : AS} (h : RInv N s x) {i : Nat} {y : Bk} (hi : x.l[i]? = some y) :
    0 ≤ y.pos ∧ 1 ≤ y.n ∧ y.pos + y.n ≤ s.width.length ∧ x.fr ≤ y.pos ∧ y.pos + y.n ≤ x.til ∧ allAre s.width true y.pos y.n.toNat := by
  have he := h.ok.chain.elem hi
  have hl := h.ok.lo
  have ht := h.til
  have hn := h.len
  have hw := h.wds y (List.mem_of_getElem? hi)
  refine ⟨by omega, by omega, by omega, by omega, by omega, fun k hk => ?_⟩
  have e : (y.pos.toNat + k : Nat) = (y.pos + k).toNat := by omega
  rw [e, h.cells _ (by omega) (by omega), wdAt_in h.ok.chain hi (by omega) (by omega)]
  rcases hw with hw | hw <;> rw [hw] <;> rfl

theorem RInv.del {N : Nat} {s : MS} {x : AS} (h : RInv N s x) {i : Nat} {y : Bk} (hi : x.l[i]? = some y) : RInv N (s.unmap y.pos y.n) (x.del i) := by
  obtain ⟨c1, c2, c3, c4, c5, c6⟩ := h.blockCells hi
  have hil : i < x.l.length := (List.getElem?_eq_some_iff.1 hi).1
  have hch := chain_del h.ok.chain hil
  have hlen := chain_len _ _ _ hch
  have hlo := h.ok.lo
  have ht := h.til
  have hm := h.most
  refine ⟨good_unmap h.good _ _ c1 c2 c3 c6, by simp [MS.unmap, MS.part, fill_length, h.len], ⟨h.ok.lo, h.ok.hi, hch, ?_⟩, h.til, h.most, ?_, ?_, ?_⟩
  · show (x.l.take i ++ x.l.drop (i + 1)).length ≤ 100000
    omega
  · intro j hj1 hj2
    show (fill s.width y.pos.toNat 0 y.n.toNat).getD j 0 = wdAt (x.l.take i ++ x.l.drop (i + 1)) j
    have hj2 : (j : Int) < x.til := hj2
    have hl := h.len
    rw [fill_get, wdAt_del h.ok.chain hi]
    by_cases hc : y.pos ≤ (j : Int) ∧ (j : Int) < y.pos + y.n
    · rw [if_pos hc, if_pos (by omega)]
    · rw [if_neg hc, if_neg (by omega)]
      exact h.cells j hj1 hj2
  · intro b hb
    have hb : b ∈ x.l.take i ++ x.l.drop (i + 1) := hb
    rcases List.mem_append.1 hb with hb | hb
    · exact h.wds b (List.mem_of_mem_take hb)
    · exact h.wds b (List.mem_of_mem_drop hb)
  · show wrap64 (s.there - y.n) = used (x.l.take i ++ x.l.drop (i + 1))
    have e : used x.l = used (x.l.take i) + (y.n + used (x.l.drop (i + 1))) := by
      have e1 : x.l.drop i = y :: x.l.drop (i + 1) := by
        rw [List.drop_eq_getElem_cons hil]
        rw [List.getElem?_eq_getElem hil] at hi
        rw [Option.some.inj hi]
      have e2 : used x.l = used (x.l.take i) + used (x.l.drop i) := by rw [← used_append, List.take_append_drop]
      rw [e1] at e2
      exact e2
    have hu2 := used_range _ _ _ hch
    rw [used_append] at hu2 ⊢
    rw [h.there, e]
    unfold wrap64
    omega

/-- A new error. -/
def ErrNew (w w' : World) (u : Value) (l : List (ByteArray × Int)) (k : Int) : Prop := (∃ T y, u = .iface T y) ∧ ∀ (S : List Nat) (w'' : World), Keeps S w' w'' → (∀ y, y ∈ S → y < w.heap.size) → ErrAt w'' u l k

theorem errNew_blk {w w' : World} {p : Nat} {l : ByteArray} {n k : Int} (hp : w.heap.size ≤ p) (hB : Blk w' p #[.string l, .int .i64 n, .iface 30 (.int .i64 k)] 97) : ErrNew w w' (.iface 93 (.pointer (some ⟨p, 0, none⟩))) [(l, n)] k :=
  ⟨⟨_, _, rfl⟩, fun _ _ hK hS => ⟨_, _, rfl, hB.keeps hK (fun h => by have := hS _ h; omega), rfl⟩⟩

/-- What Get answers. -/
def GetR (w : World) (base ab b cb wb N : Nat) (lv : Value) (x : AS) (s : MS) (n wd : Int) (e : Ending) (w' : World) : Prop :=
  ∃ (at_ : Int) (u lv' : Value) (x' : AS) (s' : MS), e = .returned (.tuple #[.int .i64 at_, u]) ∧ AllocAt w' base ab b lv' x' ∧ MemAt w' b cb wb s' ∧ RInv N s' x' ∧ Keeps ([ab, b, cb, wb] ++ lv.ownBlock.toList) w w' ∧
    (∀ g, lv'.ownBlock = some g → lv.ownBlock = some g ∨ w.heap.size ≤ g) ∧
    ((at_ = 0 ∧ lv' = lv ∧ x' = x ∧ s' = s ∧ (((n < 1 ∨ 4096 < n ∨ (wd ≠ 32 ∧ wd ≠ 64)) ∧ ErrNew w w' u [(allocS, 0)] 1) ∨ ((∀ i, i ≤ x.l.length → gapOf x.fr x.l x.til i < n) ∧ ErrNew w w' u [(allocS, 0)] 3))) ∨
      (u = .nilIface ∧ ∃ i, i ≤ x.l.length ∧ 1 ≤ n ∧ (wd = 32 ∨ wd = 64) ∧ n ≤ gapOf x.fr x.l x.til i ∧ (∀ j, j < i → gapOf x.fr x.l x.til j < n) ∧ at_ = endOf x.fr x.l i ∧ x' = x.ins i ⟨at_, n, wd⟩ ∧ s' = s.map at_ n wd))

theorem get_r (base ab b cb wb N : Nat) (lv : Value) (x : AS) (s : MS) (n wd : Int) (w : World) (hA : AllocAt w base ab b lv x) (hM : MemAt w b cb wb s) (hR : RInv N s x) (hbase : base ≤ w.heap.size)
    (hlow : b < base ∧ cb < base ∧ wb < base ∧ ab ≠ b ∧ ab ≠ cb ∧ ab ≠ wb) :
    Calls Tryd.prog 32 #[.pointer (some ⟨ab, 0, none⟩), .int .i64 n, .int .i64 wd] w (GetR w base ab b cb wb N lv x s n wd) := by
  have same : ∀ w' : World, Keeps [] w w' → AllocAt w' base ab b lv x ∧ MemAt w' b cb wb s ∧ RInv N s x ∧ Keeps ([ab, b, cb, wb] ++ lv.ownBlock.toList) w w' ∧ (∀ g, lv.ownBlock = some g → lv.ownBlock = some g ∨ w.heap.size ≤ g) :=
    fun w' hK => ⟨hA.keeps hK (by simp) (by simp), hM.keeps hK (by simp) (by simp) (by simp), hR, hK.mono (by simp), fun g hg => .inl hg⟩
  by_cases h1 : n < 1 ∨ 4096 < n ∨ (wd ≠ 32 ∧ wd ≠ 64)
  · refine (get_arg ab n wd w h1).mono ?_
    rintro e w' ⟨rfl, rfl⟩
    obtain ⟨q1, q2, q3, q4, q5⟩ := same _ ((Keeps.refl [] w).alloc _)
    exact ⟨0, _, lv, x, s, rfl, q1, q2, q3, q4, q5, .inl ⟨rfl, rfl, rfl, rfl, .inl ⟨h1, errNew_blk (Nat.le_refl _) (Blk.fresh _ _ _)⟩⟩⟩
  · have hn1 : 1 ≤ n := by omega
    have hn2 : n ≤ 4096 := by omega
    have hwd : wd = 32 ∨ wd = 64 := by omega
    rcases first_gap x.fr x.l x.til n (x.l.length + 1) with hno | ⟨i, hi, hg, hb⟩
    · refine (get_room base ab b lv x n wd w hA hR.ok hn1 hn2 hwd (fun i hi => hno i (by omega))).mono ?_
      rintro e w' ⟨p, rfl, hp, hB, hK⟩
      obtain ⟨q1, q2, q3, q4, q5⟩ := same _ hK
      exact ⟨0, _, lv, x, s, rfl, q1, q2, q3, q4, q5, .inl ⟨rfl, rfl, rfl, rfl, .inr ⟨fun i hi => hno i (by omega), errNew_blk hp hB⟩⟩⟩
    · have hi : i ≤ x.l.length := by omega
      obtain ⟨c1, c2, c3, c4⟩ := hR.gapCells hi hn1 hg
      have hmp : ∀ w1, MemAt w1 b cb wb s → Calls Tryd.prog 20 #[.pointer (some ⟨b, 0, none⟩), .int .i64 (endOf x.fr x.l i), .int .i64 n, .int .i64 wd] w1 (MPost w1 b cb wb (s.map (endOf x.fr x.l i) n wd) none) :=
        fun w1 hM1 => (map_ok b cb wb s _ n w1 hM1 c1 hn1 c2 wd hwd c4).mono fun e w' ⟨he, hM', hK⟩ => ⟨_, he, errf_none _ _, hM', hK⟩
      refine (get_ok base ab lv x n wd w b cb wb s _ hA hR.ok hM hbase hlow hn1 hn2 hwd i hi hg hb hmp).mono ?_
      rintro e w' ⟨rfl, lv', q1, q2, q3, q4⟩
      exact ⟨_, _, lv', _, _, rfl, q1, q2, hR.ins hi hn1 hwd hg, q3, q4, .inr ⟨rfl, i, hi, hn1, hwd, hg, hb, rfl, rfl, rfl⟩⟩

/-- What Put answers. -/
def PutR (w : World) (base ab b cb wb N : Nat) (lv : Value) (x : AS) (s : MS) (p : Int) (e : Ending) (w' : World) : Prop :=
  ∃ (u lv' : Value) (x' : AS) (s' : MS), e = .returned u ∧ AllocAt w' base ab b lv' x' ∧ MemAt w' b cb wb s' ∧ RInv N s' x' ∧ Keeps ([ab, b, cb, wb] ++ lv.ownBlock.toList) w w' ∧ lv'.ownBlock = lv.ownBlock ∧
    ((x' = x ∧ s' = s ∧ (∀ (i : Nat) (r : Bk), x.l[i]? = some r → r.pos ≠ p) ∧ ErrNew w w' u [(allocS, p)] 4) ∨
      (u = .nilIface ∧ ∃ (i : Nat) (y : Bk), x.l[i]? = some y ∧ y.pos = p ∧ (∀ (j : Nat) (r : Bk), j < i → x.l[j]? = some r → r.pos ≠ p) ∧ x' = x.del i ∧ s' = s.unmap p y.n))

theorem put_r (base ab b cb wb N : Nat) (lv : Value) (x : AS) (s : MS) (p : Int) (w : World) (hA : AllocAt w base ab b lv x) (hM : MemAt w b cb wb s) (hR : RInv N s x) (hbase : base ≤ w.heap.size)
    (hlow : b < base ∧ cb < base ∧ wb < base ∧ ab ≠ b ∧ ab ≠ cb ∧ ab ≠ wb) :
    Calls Tryd.prog 33 #[.pointer (some ⟨ab, 0, none⟩), .int .i64 p] w (PutR w base ab b cb wb N lv x s p) := by
  rcases first_pos x.l p with hno | ⟨i, y, hi, rfl, hb⟩
  · refine (put_none base ab lv x p w b hA hR.ok hno).mono ?_
    rintro e w' ⟨q, rfl, hq, hB, hK⟩
    exact ⟨_, lv, x, s, rfl, hA.keeps hK (by simp) (by simp), hM.keeps hK (by simp) (by simp) (by simp), hR, hK.mono (by simp), rfl, .inl ⟨rfl, rfl, hno, errNew_blk hq hB⟩⟩
  · obtain ⟨c1, c2, c3, c4, c5, c6⟩ := hR.blockCells hi
    have hmp : ∀ w1, MemAt w1 b cb wb s → Calls Tryd.prog 25 #[.pointer (some ⟨b, 0, none⟩), .int .i64 y.pos, .int .i64 y.n] w1 (MPost w1 b cb wb (s.unmap y.pos y.n) none) :=
      fun w1 hM1 => (unmap_ok b cb wb s _ _ w1 hM1 c1 c2 c3 c6).mono fun e w' ⟨he, hM', hK⟩ => ⟨_, he, errf_none _ _, hM', hK⟩
    refine (put_found base ab lv x y.pos w b cb wb s _ none hA hR.ok hM hbase hlow i y hi rfl hb hmp).mono ?_
    rintro e w' ⟨u, rfl, ⟨lv', q1, q2⟩, q3, q4, rfl⟩
    exact ⟨_, lv', _, _, rfl, q1, q3, hR.del hi, q4, q2, .inr ⟨rfl, i, y, hi, rfl, hb, rfl, rfl⟩⟩
end Go.Proofs.YtmciclhifcjoiaaDoor
