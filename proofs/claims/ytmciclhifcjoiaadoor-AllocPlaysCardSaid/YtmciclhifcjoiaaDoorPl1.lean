/-
  The program's allocator and the document's, each call beside the other: what both answer, and what both are behind it.
-/
import Derived.Test.YtmciclhifcjoiaaDoorRef03g
import Derived.Test.YtmciclhifcjoiaaDoorRef03e
namespace Go.Proofs.YtmciclhifcjoiaaDoor
open Go.RowKit

/-- What a call of the program's allocator answers, and what it and its memory are then. -/
def PPost (w : World) (base ab b cb wb : Nat) (lv : Value) (x' : AS) (s' : MS) (ans : Value → Value) (d : Option (List (ByteArray × Int) × Int)) (e : Ending) (w' : World) : Prop :=
  ∃ u lv', e = .returned (ans u) ∧ ErrF w w' u d ∧ AllocAt w' base ab b lv' x' ∧ MemAt w' b cb wb s' ∧ Keeps ([ab, b, cb, wb] ++ lv.ownBlock.toList) w w' ∧ ∀ g, lv'.ownBlock = some g → lv.ownBlock = some g ∨ w.heap.size ≤ g
def QPost (w : World) (base rab rb rwb rhb : Nat) (rlv : Value) (x' : AS) (s' : MS) (ans : Value → Value) (d : Option (List (ByteArray × Int) × Int)) (e : Ending) (w' : World) : Prop :=
  ∃ u rlv', e = .returned (ans u) ∧ DocAt w' u d ∧ RAllocAt w' base rab rb rlv' x' ∧ RefAt w' rb rwb rhb s' ∧ Keeps [rab, rb, rwb, rhb] w w' ∧ ∀ g, rlv'.ownBlock = some g → rlv.ownBlock = some g ∨ w.heap.size ≤ g

/-- How the blocks of both lie. -/
structure Lie (B base ab b cb wb rab rb rwb rhb : Nat) : Prop where
  new : B ≤ b ∧ B ≤ cb ∧ B ≤ wb ∧ B ≤ ab ∧ B ≤ rab ∧ B ≤ rb ∧ B ≤ rwb ∧ B ≤ rhb
  low : b < base ∧ cb < base ∧ wb < base ∧ ab < base ∧ rab < base ∧ rb < base ∧ rwb < base ∧ rhb < base
  one : ab ≠ b ∧ ab ≠ cb ∧ ab ≠ wb ∧ rab ≠ rb ∧ rab ≠ rwb ∧ rab ≠ rhb
  two : ab ≠ rab ∧ ab ≠ rb ∧ ab ≠ rwb ∧ ab ≠ rhb
  three : b ≠ rab ∧ b ≠ rb ∧ b ≠ rwb ∧ b ≠ rhb ∧ cb ≠ rab ∧ cb ≠ rb ∧ cb ≠ rwb ∧ cb ≠ rhb ∧ wb ≠ rab ∧ wb ≠ rb ∧ wb ≠ rwb ∧ wb ≠ rhb

structure Pair (B : Nat) (w : World) (base ab b cb wb rab rb rwb rhb : Nat) (lv rlv : Value) (x : AS) (s : MS) : Prop where
  alloc : AllocAt w base ab b lv x
  ralloc : RAllocAt w base rab rb rlv x
  mem : MemAt w b cb wb s
  ref : RefAt w rb rwb rhb s
  good : s.good
  ok : x.ok
  til : x.til ≤ 1000
  baseLe : base ≤ w.heap.size
  newBase : B ≤ base
  lie : Lie B base ab b cb wb rab rb rwb rhb

theorem few_of {x : AS} (h : x.ok) (ht : x.til ≤ 1000) : x.l.length ≤ 1000 := by
  have := chain_len _ _ _ h.chain
  have := h.lo
  omega
theorem ok_ins {x : AS} (h : x.ok) (ht : x.til ≤ 1000) {i : Nat} {n wd : Int} (hi : i ≤ x.l.length) (h1 : 1 ≤ n) (hg : n ≤ gapOf x.fr x.l x.til i) : (x.ins i ⟨endOf x.fr x.l i, n, wd⟩).ok := by
  have hc : Chain x.fr (x.l.take i ++ (⟨endOf x.fr x.l i, n, wd⟩ :: x.l.drop i)) x.til := chain_ins h.chain hi h1 hg
  have := chain_len _ _ _ hc
  have := h.lo
  exact ⟨h.lo, h.hi, hc, by show (x.l.take i ++ (⟨endOf x.fr x.l i, n, wd⟩ :: x.l.drop i)).length ≤ 100000; omega⟩
theorem ok_del {x : AS} (h : x.ok) {i : Nat} (hi : i < x.l.length) : (x.del i).ok :=
  ⟨h.lo, h.hi, chain_del h.chain hi, by show (x.l.take i ++ x.l.drop (i + 1)).length ≤ 100000; have := h.few; simp; omega⟩

/-- Two rows whose elements are of two types lie in two blocks. -/
theorem own_apart {w : World} {b1 b2 s1 s2 n1 n2 q : Nat} {t1 t2 : TypeId} {v1 v2 : Value} {x1 x2 : List Value} (h1 : w.ownsRow b1 t1 s1 v1 n1 x1) (h2 : w.ownsRow b2 t2 s2 v2 n2 x2) (ht : t1 ≠ t2) (e1 : v1.ownBlock = some q) (e2 : v2.ownBlock = some q) : False := by
  rcases h1.2 with ⟨rfl, _⟩ | ⟨g1, c1, k1, rfl, _, hg1, _⟩
  · cases e1
  · rcases h2.2 with ⟨rfl, _⟩ | ⟨g2, c2, k2, rfl, _, hg2, _⟩
    · cases e2
    · simp [Value.ownBlock] at e1 e2
      subst e1
      subst e2
      rw [hg1] at hg2
      cases hg2
      exact ht rfl
theorem ownsRow_keeps2 {S : List Nat} {w w' : World} {base n size : Nat} {t : TypeId} {v : Value} {xs : List Value} (h : w.ownsRow base t size v n xs) (hK : Keeps S w w') (hS : ∀ q, v.ownBlock = some q → q ∉ S) : w'.ownsRow base t size v n xs := by
  refine ⟨h.1, ?_⟩
  rcases h.2 with hn | ⟨q, cap, cur, rfl, hb, hgg, rest⟩
  · exact .inl hn
  · exact .inr ⟨q, cap, cur, rfl, hb, (hK.block q (Array.getElem?_eq_some_iff.1 hgg).1 (hS q rfl)).trans hgg, rest⟩

section
variable {B : Nat} {w w1 w2 : World} {base ab b cb wb rab rb rwb rhb : Nat} {lv lv' rlv rlv' : Value} {x x' : AS} {s s' : MS}

/-- Behind the program's call the document's is as it was. -/
theorem Pair.mid (h : Pair B w base ab b cb wb rab rb rwb rhb lv rlv x s) (hK : Keeps ([ab, b, cb, wb] ++ lv.ownBlock.toList) w w1) : RAllocAt w1 base rab rb rlv x ∧ RefAt w1 rb rwb rhb s := by
  have own : ∀ z, z ∈ lv.ownBlock.toList → base ≤ z := fun z hz => (World.ownsRow.lt h.alloc.2.2 z (by simpa using hz)).1
  have key : ∀ z, z < base → z ∉ [ab, b, cb, wb] → z ∉ [ab, b, cb, wb] ++ lv.ownBlock.toList := by
    intro z hz hn hm
    rcases List.mem_append.1 hm with hm | hm
    · exact hn hm
    · have := own z hm; omega
  obtain ⟨l1, l2, l3, l4, l5, l6, l7, l8⟩ := h.lie.low
  have hrow : w1.ownsRow base 117 3 rlv x.l.length (x.l.flatMap Bk.cells) := by
    refine ownsRow_keeps2 h.ralloc.2.2 hK (fun q hq hm => ?_)
    have hqb := (World.ownsRow.lt h.ralloc.2.2 q hq).1
    rcases List.mem_append.1 hm with hm | hm
    · simp at hm; omega
    · exact own_apart h.alloc.2.2 h.ralloc.2.2 (by decide) (by simpa using hm) hq
  obtain ⟨t1, t2, t3, t4⟩ := h.lie.two
  obtain ⟨h1, h2, h3, h4, h5, h6, h7, h8, h9, h10, h11, h12⟩ := h.lie.three
  exact ⟨⟨h.ralloc.1, h.ralloc.2.1.keeps hK (key _ l5 (by simp [Ne.symm t1, Ne.symm h1, Ne.symm h5, Ne.symm h9])), hrow⟩, h.ref.keeps hK (key _ l6 (by simp [Ne.symm t2, Ne.symm h2, Ne.symm h6, Ne.symm h10])) (key _ l7 (by simp [Ne.symm t3, Ne.symm h3, Ne.symm h7, Ne.symm h11])) (key _ l8 (by simp [Ne.symm t4, Ne.symm h4, Ne.symm h8, Ne.symm h12]))⟩

/-- Behind both. -/
theorem Pair.both (h : Pair B w base ab b cb wb rab rb rwb rhb lv rlv x s) (hg : s'.good) (ho : x'.ok) (ht : x'.til ≤ 1000) (hA : AllocAt w1 base ab b lv' x') (hM : MemAt w1 b cb wb s') (hK1 : Keeps ([ab, b, cb, wb] ++ lv.ownBlock.toList) w w1)
    (hR : RAllocAt w2 base rab rb rlv' x') (hF : RefAt w2 rb rwb rhb s') (hK2 : Keeps [rab, rb, rwb, rhb] w1 w2) : Pair B w2 base ab b cb wb rab rb rwb rhb lv' rlv' x' s' := by
  obtain ⟨l1, l2, l3, l4, l5, l6, l7, l8⟩ := h.lie.low
  have hlo : ∀ z, z ∈ [rab, rb, rwb, rhb] → z < base := by intro z hz; simp at hz; omega
  obtain ⟨t1, t2, t3, t4⟩ := h.lie.two
  obtain ⟨h1, h2, h3, h4, h5, h6, h7, h8, h9, h10, h11, h12⟩ := h.lie.three
  exact ⟨hA.keeps hK2 (by simp [t1, t2, t3, t4]) hlo, hR, hM.keeps hK2 (by simp [h1, h2, h3, h4]) (by simp [h5, h6, h7, h8]) (by simp [h9, h10, h11, h12]), hF, hg, ho, ht, Nat.le_trans h.baseLe (Nat.le_trans hK1.size hK2.size), h.newBase, h.lie⟩
theorem Pair.keeps (h : Pair B w base ab b cb wb rab rb rwb rhb lv rlv x s) (hK : Keeps [] w w1) : Pair B w1 base ab b cb wb rab rb rwb rhb lv rlv x s :=
  ⟨h.alloc.keeps hK (by simp) (by simp), h.ralloc.keeps hK (by simp) (by simp), h.mem.keeps hK (by simp) (by simp) (by simp), h.ref.keeps hK (by simp) (by simp) (by simp), h.good, h.ok, h.til, Nat.le_trans h.baseLe hK.size, h.newBase, h.lie⟩

/-- Nothing that was there at the beginning is written. -/
theorem Pair.out1 (h : Pair B w base ab b cb wb rab rb rwb rhb lv rlv x s) : ∀ z, z ∈ [ab, b, cb, wb] ++ lv.ownBlock.toList → B ≤ z := by
  intro z hz
  obtain ⟨n1, n2, n3, n4, n5, n6, n7, n8⟩ := h.lie.new
  have nb := h.newBase
  rcases List.mem_append.1 hz with hz | hz
  · simp at hz; omega
  · have := (World.ownsRow.lt h.alloc.2.2 z (by simpa using hz)).1; omega
theorem Pair.out2 (h : Pair B w base ab b cb wb rab rb rwb rhb lv rlv x s) : ∀ z, z ∈ [rab, rb, rwb, rhb] → B ≤ z := by
  intro z hz
  obtain ⟨n1, n2, n3, n4, n5, n6, n7, n8⟩ := h.lie.new
  simp at hz; omega
theorem Pair.low2 (h : Pair B w base ab b cb wb rab rb rwb rhb lv rlv x s) : ∀ z, z ∈ [rab, rb, rwb, rhb] → z < w.heap.size := by
  intro z hz
  obtain ⟨l1, l2, l3, l4, l5, l6, l7, l8⟩ := h.lie.low
  have := h.baseLe
  simp at hz; omega
end

theorem errf_new {w w' : World} {u : Value} {l : List (ByteArray × Int)} {k : Int} (h : ErrNew w w' u l k) : ErrF w w' u (some (l, k)) := h.2

/-- A layer put ahead. -/
def ahead (p : Int) : Option (List (ByteArray × Int) × Int) → Option (List (ByteArray × Int) × Int)
  | none => none
  | some (l, k) => some ((allocS, p) :: l, k)

section
variable (base ab b cb wb rab rb rwb rhb : Nat) (lv rlv : Value) (x : AS) (s : MS) (hok : x.ok) (htl : x.til ≤ 1000) (hg : s.good)
  (hlow : b < base ∧ cb < base ∧ wb < base ∧ ab ≠ b ∧ ab ≠ cb ∧ ab ≠ wb) (hrlow : rb < base ∧ rwb < base ∧ rhb < base ∧ rab ≠ rb ∧ rab ≠ rwb ∧ rab ≠ rhb)
include hok htl hg hlow hrlow

theorem put_both (p : Int) (hp : p ≤ 9223372036854775807) : ∃ (d : Option (List (ByteArray × Int) × Int)) (x' : AS) (s' : MS), x'.ok ∧ x'.til ≤ 1000 ∧ s'.good ∧
    (∀ w, AllocAt w base ab b lv x → MemAt w b cb wb s → base ≤ w.heap.size → Calls Tryd.prog 33 #[.pointer (some ⟨ab, 0, none⟩), .int .i64 p] w (PPost w base ab b cb wb lv x' s' id d)) ∧
    (∀ w, RAllocAt w base rab rb rlv x → RefAt w rb rwb rhb s → base ≤ w.heap.size → Calls Tryd.prog 40 #[.pointer (some ⟨rab, 0, none⟩), .int .i64 p] w (QPost w base rab rb rwb rhb rlv x' s' id d)) := by
  rcases first_pos x.l p with hno | ⟨i, y, hi, rfl, hb⟩
  · refine ⟨some ([(allocS, p)], 4), x, s, hok, htl, hg, fun w hA hM _ => ?_, fun w hR hF _ => ?_⟩
    · refine (put_none base ab lv x p w b hA hok hno).mono ?_
      rintro e w' ⟨q, rfl, hq, hB, hK⟩
      exact ⟨_, lv, rfl, errf_new (errNew_blk hq hB), hA.keeps hK (by simp) (by simp), hM.keeps hK (by simp) (by simp) (by simp), hK.mono (by simp), fun g hg => .inl hg⟩
    · refine (rput_none base rab rb rlv x p w hR hok hno).mono ?_
      rintro e w' ⟨v, rfl, hE, hK⟩
      exact ⟨v, rlv, rfl, ⟨hE, by simp, by omega, by omega⟩, hR.keeps hK (by simp) (by simp), hF.keeps hK (by simp) (by simp) (by simp), hK.mono (by simp), fun g hg => .inl hg⟩
  · obtain ⟨d, s', hd, hg', _, hm, hr⟩ := unmap_one b cb wb rb rwb rhb s hg y.pos y.n hp
    have hil : i < x.l.length := (List.getElem?_eq_some_iff.1 hi).1
    refine ⟨ahead y.pos d, x.del i, s', ok_del hok hil, htl, hg', fun w hA hM hbase => ?_, fun w hR hF hbase => ?_⟩
    · refine (put_found base ab lv x y.pos w b cb wb s s' d hA hok hM hbase hlow i y hi rfl hb hm).mono ?_
      rintro e w' ⟨u, rfl, ⟨lv', q1, q2⟩, q3, q4, q5⟩
      refine ⟨u, lv', rfl, ?_, q1, q3, q4, fun g hg => .inl (by rw [← q2]; exact hg)⟩
      rcases hd with rfl | ⟨n0, kk, rfl, _, _⟩
      · obtain rfl : u = .nilIface := q5
        exact errf_none _ _
      · exact q5
    · refine (rput_found base rab rb rwb rhb rlv x s s' d y.pos w hR hok hF hbase hrlow i y hi rfl hb hd hr).mono ?_
      rintro e w' ⟨u, rfl, ⟨lv', q1, q2⟩, q3, q4, q5⟩
      refine ⟨u, lv', rfl, ?_, q1, q3, q4, fun g hg => .inr (q2 g hg)⟩
      rcases hd with rfl | ⟨n0, kk, rfl, hk1, hk2⟩
      · exact q5
      · exact ⟨q5, by simp, hk1, hk2⟩

/-- What Get answers: a place and an error. -/
def ansGet (p : Int) (u : Value) : Value := .tuple #[.int .i64 p, u]

theorem get_both (n wd : Int) : ∃ (p : Int) (d : Option (List (ByteArray × Int) × Int)) (x' : AS) (s' : MS), x'.ok ∧ x'.til ≤ 1000 ∧ s'.good ∧
    (∀ w, AllocAt w base ab b lv x → MemAt w b cb wb s → base ≤ w.heap.size → Calls Tryd.prog 32 #[.pointer (some ⟨ab, 0, none⟩), .int .i64 n, .int .i64 wd] w (PPost w base ab b cb wb lv x' s' (ansGet p) d)) ∧
    (∀ w, RAllocAt w base rab rb rlv x → RefAt w rb rwb rhb s → base ≤ w.heap.size → Calls Tryd.prog 42 #[.pointer (some ⟨rab, 0, none⟩), .int .i64 n, .int .i64 wd] w (QPost w base rab rb rwb rhb rlv x' s' (ansGet p) d)) := by
  by_cases h1 : n < 1 ∨ 4096 < n ∨ (wd ≠ 32 ∧ wd ≠ 64)
  · refine ⟨0, some ([(allocS, 0)], 1), x, s, hok, htl, hg, fun w hA hM _ => ?_, fun w hR hF _ => ?_⟩
    · refine (get_arg ab n wd w h1).mono ?_
      rintro e w' ⟨rfl, hw⟩
      have hK : Keeps [] w w' := hw ▸ (Keeps.refl [] w).alloc _
      subst hw
      exact ⟨_, lv, rfl, errf_new (errNew_blk (Nat.le_refl _) (Blk.fresh _ _ _)), hA.keeps hK (by simp) (by simp), hM.keeps hK (by simp) (by simp) (by simp), hK.mono (by simp), fun g hg => .inl hg⟩
    · refine (rget_arg rab n wd w h1).mono ?_
      rintro e w' ⟨v, rfl, hE, hK⟩
      exact ⟨v, rlv, rfl, ⟨hE, by simp, by omega, by omega⟩, hR.keeps hK (by simp) (by simp), hF.keeps hK (by simp) (by simp) (by simp), hK.mono (by simp), fun g hg => .inl hg⟩
  · have hn1 : 1 ≤ n := by omega
    have hn2 : n ≤ 4096 := by omega
    have hwd : wd = 32 ∨ wd = 64 := by omega
    rcases first_gap x.fr x.l x.til n (x.l.length + 1) with hno | ⟨i, hi, hgap, hb⟩
    · refine ⟨0, some ([(allocS, 0)], 3), x, s, hok, htl, hg, fun w hA hM _ => ?_, fun w hR hF _ => ?_⟩
      · refine (get_room base ab b lv x n wd w hA hok hn1 hn2 hwd (fun i hi => hno i (by omega))).mono ?_
        rintro e w' ⟨q, rfl, hq, hB, hK⟩
        exact ⟨_, lv, rfl, errf_new (errNew_blk hq hB), hA.keeps hK (by simp) (by simp), hM.keeps hK (by simp) (by simp) (by simp), hK.mono (by simp), fun g hg => .inl hg⟩
      · refine (rget_room base rab rb rlv x n wd w hR hok hn1 hn2 hwd (fun i hi => hno i (by omega))).mono ?_
        rintro e w' ⟨v, rfl, hE, hK⟩
        exact ⟨v, rlv, rfl, ⟨hE, by simp, by omega, by omega⟩, hR.keeps hK (by simp) (by simp), hF.keeps hK (by simp) (by simp) (by simp), hK.mono (by simp), fun g hg => .inl hg⟩
    · have hi : i ≤ x.l.length := by omega
      have hgp := hok.chain.gap hi
      obtain ⟨d, s', hd, hg', _, hm, hr⟩ := map_one b cb wb rb rwb rhb s hg (endOf x.fr x.l i) n wd (by omega)
      rcases hd with rfl | ⟨n0, kk, rfl, hk1, hk2⟩
      · refine ⟨endOf x.fr x.l i, none, x.ins i ⟨endOf x.fr x.l i, n, wd⟩, s', ok_ins hok htl hi hn1 hgap, htl, hg', fun w hA hM hbase => ?_, fun w hR hF hbase => ?_⟩
        · refine (get_ok base ab lv x n wd w b cb wb s s' hA hok hM hbase hlow hn1 hn2 hwd i hi hgap hb hm).mono ?_
          rintro e w' ⟨rfl, lv', q1, q2, q3, q4⟩
          exact ⟨_, lv', rfl, errf_none _ _, q1, q2, q3, q4⟩
        · refine (rget_ok base rab rb rwb rhb rlv x s s' n wd w hR hok hF hbase hrlow hn1 hn2 hwd i hi hgap hb hr).mono ?_
          rintro e w' ⟨rfl, lv', q1, q2, q3, q4⟩
          exact ⟨_, lv', rfl, rfl, q1, q2, q3, fun g hg => .inr (q4 g hg)⟩
      · refine ⟨0, some ([(allocS, endOf x.fr x.l i), (memS, n0)], kk), x, s', hok, htl, hg', fun w hA hM hbase => ?_, fun w hR hF hbase => ?_⟩
        · refine (get_fail base ab lv x n wd w b cb wb s s' [(memS, n0)] kk hA hok hM hbase hlow hn1 hn2 hwd i hi hgap hb hm).mono ?_
          rintro e w' ⟨u, rfl, q1, q2, q3, q4⟩
          exact ⟨u, lv, rfl, q1, q2, q3, q4.mono (by intro z hz; simp at hz; simp; omega), fun g hg => .inl hg⟩
        · refine (rget_fail base rab rb rwb rhb rlv x s s' memS n0 kk n wd w hR hok hF hn1 hn2 hwd i hi hgap hb hr).mono ?_
          rintro e w' ⟨u, rfl, q1, q2, q3⟩
          exact ⟨u, rlv, rfl, ⟨q1, by simp, hk1, hk2⟩, hR.keeps q3 (by simp; omega) (by intro z hz; simp at hz; omega), q2, q3.mono (by intro z hz; simp at hz ⊢; omega), fun g hg => .inl hg⟩
end
end Go.Proofs.YtmciclhifcjoiaaDoor
