/-
  The package alloc: Blocks as a sequence that is ranged over; Used.
-/
import Derived.Test.YtmciclhifcjoiaaDoorAl7
import Derived.RangeFuncNested
import Derived.RangeFuncBound
import Derived.RangeFuncCalls
import Derived.RangeFuncLeaves
import Derived.RangeFuncBox
import Derived.Shelf.Abstract
import Derived.Shelf.RegionOpen
import Derived.OwnWalkIn
import Derived.TacticsInMore
import Derived.LoopNIn
import Derived.LoopIn
namespace Go.Proofs.YtmciclhifcjoiaaDoor
open Go.RowKit Go.Shelf
attribute [local go_sem] Oper.semAt_some

/-- append of structs to an empty slice without room: a row of one's own, nothing else turned. -/
theorem wpListIn_append_new {F : Fence} {n : Nat} {P : Program} (w : World) {ops : Array Oper} {rest : List Oper} {o : Oper} {a : Act} {Q : Exit → Act → World → Prop}
    (hg : o.guard = none) (s x : Operand) (t : TypeId) (hop : o.op = Op.call { callee := Callee.builtin Builtin.append, args := #[s, x], argTypes := #[t, t] })
    (e : TypeId) (i : TypeInfo) (z : Value) (size bytes : Nat) (h1 : P.underlying t = some (.slice e)) (h2 : P.info? e = some i) (h3 : i.zero = some z) (h4 : i.size = size) (h5 : i.bytes = bytes) (h6 : z.cells.size = size) (h7 : 0 < size)
    (g : Nat) (hs : a.eval s = .slice (some ⟨g, 0, none⟩) 0 0) (hgB : w.heap[g]? = some (.cells #[] e (0, 0))) (ad : Addr) (m c : Nat) (news : List Value) (hx : a.eval x = .slice (some ad) m c) (hn : news.length = m * size)
    (hc : ∀ j u, news[j]? = some u → w.cell? (ad.add j) = some u) (h1c : ∀ u ∈ news, u.oneCell' = true) (b1 : m ≤ maxLen) (b2 : m * bytes ≤ 140737488355328)
    (hK : ∀ v' w', w'.ownsRow g e size v' m news → w.grownBy w' none → wpListIn F n P ops Q rest (a.put o.dst v') w') :
    wpListIn F n P ops Q (o :: rest) a w := by
  refine wpListIn_plain hg fun K hK' => ?_
  obtain ⟨v', w', hrun, r1, r2⟩ : ∃ v' w', (Builtin.append_ #[t, t] o.type #[.slice (some ⟨g, 0, none⟩) 0 0, .slice (some ad) m c]).run P w = .ok v' w' ∧ w'.ownsRow g e size v' m news ∧ w.grownBy w' none := by
    by_cases hm : m = 0
    · subst hm
      have hnil : news = [] := List.eq_nil_of_length_eq_zero (by rw [hn]; simp)
      subst hnil
      have h := run_append_room_cells (P := P) w t o.type e i h1 h2 g 0 0 0 ad 0 c [] (by simp) hc h1c (by omega) (by simp) (by simp)
      refine ⟨_, _, h, ⟨by simp, .inr ⟨g, 0, #[], rfl, Nat.le_refl _, ?_, Nat.le_refl _, Nat.zero_le _, by simp, by simp⟩⟩, ⟨rfl, rfl, rfl, Nat.le_refl _, fun _ _ _ => rfl⟩⟩
      exact hgB
    · obtain ⟨v2, w2, h, s1, s2⟩ := run_append_arg_grows (P := P) w t o.type e i z size bytes h1 h2 h3 h4 h5 h6 h7 ⟨g, 0, none⟩ 0 0 [] (by simp) (by simp) ad m c news hn hc (by omega) (by rw [Nat.zero_add]; exact b1) (by rw [Nat.zero_add]; exact b2)
      rw [Nat.zero_add, List.nil_append] at s1
      have hlt : g < w.heap.size := (Array.getElem?_eq_some_iff.1 hgB).1
      exact ⟨v2, w2, h, ownsRow_mono s1 (Nat.le_of_lt hlt), s2⟩
  unfold Oper.wpIn
  refine ⟨?_, ?_⟩
  · simp [Oper.about, hop, resolve, Target.leads, Sem.run_pure]
  · rw [Oper.semAt_plain F _ _ (by rw [hop]; intro c hc'; cases hc')]
    simp [execOp, hop, resolve, invoke, builtin, hs, hx, hrun, Result.andThen]
    exact hK' _ _ (hK v' w' r1 r2)

theorem wpListIn_append_nil {F : Fence} {n : Nat} {P : Program} (w : World) {ops : Array Oper} {rest : List Oper} {o : Oper} {a : Act} {Q : Exit → Act → World → Prop}
    (hg : o.guard = none) (s x : Operand) (t : TypeId) (hop : o.op = Op.call { callee := Callee.builtin Builtin.append, args := #[s, x], argTypes := #[t, t] })
    (base : Nat) (e : TypeId) (i : TypeInfo) (size : Nat) (h1 : P.underlying t = some (.slice e)) (h2 : P.info? e = some i)
    (v : Value) (k : Nat) (xs : List Value) (hs : a.eval s = v) (hown : w.ownsRow base e size v k xs) (hx : a.eval x = .slice none 0 0)
    (hK : wpListIn F n P ops Q rest (a.put o.dst v) w) : wpListIn F n P ops Q (o :: rest) a w := by
  refine wpListIn_plain hg fun K hK' => ?_
  have hrun := run_append_owned_none (P := P) (w := w) base t o.type e i size h1 h2 v k xs hown
  unfold Oper.wpIn
  refine ⟨?_, ?_⟩
  · simp [Oper.about, hop, resolve, Target.leads, Sem.run_pure]
  · rw [Oper.semAt_plain F _ _ (by rw [hop]; intro c hc'; cases hc')]
    simp [execOp, hop, resolve, invoke, builtin, hs, hx, hrun, Result.andThen]
    exact hK' _ _ hK

/-- Of the cells that were there none was written but those of block B. -/
structure KeptBut (B : Nat) (W W' : World) : Prop where
  size : W.heap.size ≤ W'.heap.size
  cells : ∀ k, k < W.heap.size → k ≠ B → ∀ o, W.heap[k]? = some o → o.isCells = true → W'.heap[k]? = some o

theorem KeptBut.refl (B : Nat) (W : World) : KeptBut B W W := ⟨Nat.le_refl _, fun _ _ _ _ h _ => h⟩
theorem KeptBut.trans {B : Nat} {W1 W2 W3 : World} (h : KeptBut B W1 W2) (k : KeptBut B W2 W3) : KeptBut B W1 W3 :=
  ⟨Nat.le_trans h.size k.size, fun i hi hn o ho hc => k.cells i (Nat.lt_of_lt_of_le hi h.size) hn o (h.cells i hi hn o ho hc) hc⟩
theorem KeptBut.alloc {B : Nat} {W1 W2 : World} (h : KeptBut B W1 W2) (o : Obj) : KeptBut B W1 (W2.alloc o) :=
  h.trans ⟨by simp, fun k hk _ o' ho' _ => (Below.heap_alloc _ _ _ hk).trans ho'⟩
theorem KeptBut.putObj {B : Nat} {W : World} {l : Nat} {o o' : Obj} (hl : W.heap[l]? = some o) (ho : o.isCells = false) : KeptBut B W (W.putObj l o') := by
  refine ⟨(grownBy_putObj' W l o').size, fun k hk _ q hq hc => ?_⟩
  by_cases hkl : k = l
  · subst hkl
    rw [hl] at hq
    cases hq
    rw [ho] at hc
    cases hc
  · exact ((grownBy_putObj' W l o').block k hk (fun e => hkl (by cases e; rfl))).trans hq
theorem KeptBut.cell {B : Nat} {W W' : World} (h : KeptBut B W W') {p : Addr} {v : Value} (hp : p.block ≠ B) (hv : W.cell? p = some v) : W'.cell? p = some v := by
  have hlt := lt_of_cell hv
  obtain ⟨o, ho⟩ : ∃ o, W.heap[p.block]? = some o := ⟨_, Array.getElem?_eq_getElem hlt⟩
  have hc : o.isCells = true := by
    cases o with
    | cells c t f => rfl
    | _ => simp [World.cell?, ho] at hv
  have := h.cells p.block hlt hp o ho hc
  rw [World.cell?_of_block (w := W) (this.trans ho.symm)]
  exact hv
theorem AllocAt.below {n₀ : Nat} {w w' : World} {base ab mb : Nat} {lv : Value} {x : AS} (h : AllocAt w base ab mb lv x) (k : Below n₀ w w') (hn : w.heap.size ≤ n₀) : AllocAt w' base ab mb lv x := by
  refine ⟨h.1, h.2.1.below k (Nat.lt_of_lt_of_le h.2.1.lt hn), h.2.2.1, ?_⟩
  rcases h.2.2.2 with hn0 | ⟨q, cap, cur, rfl, hb, hgg, rest⟩
  · exact .inl hn0
  · exact .inr ⟨q, cap, cur, rfl, hb, (k.block q (Nat.lt_of_lt_of_le (Array.getElem?_eq_some_iff.1 hgg).1 hn)).trans hgg, rest⟩

/-- What a block is handed over as. -/
def encB (b : Bk) : Array Value := #[.agg #[.int .i64 b.pos, .int .i64 b.n, .int .i64 b.wd]]

set_option maxRecDepth 100000 in
set_option maxHeartbeats 4000000 in
/-- Blocks' closure: for every body that writes no cells that were there but block B's. -/
theorem blocks_stops (F : Fence) (n : Nat) (hf : F.fn 73) (hro : F.round = none) (hn1 : 1 ≤ n) (base ab mb Q B : Nat) (lv : Value) (x : AS) (w0 : World) (hA : AllocAt w0 base ab mb lv x) (hx : x.ok)
    (hQ : Blk w0 Q #[.pointer (some ⟨ab, 0, none⟩)] 56) (hB : B < w0.heap.size) :
    SeqStopsK F n Tryd.prog 73 #[.pointer (some ⟨Q, 0, none⟩)] encB (KeptBut B) (fun xs => xs = x.l) (fun _ => True) x.l.length w0 := by
  intro l J Jx W hW hJ hJx hY h0
  obtain ⟨iT, hiT, hz0, hz1, hz2⟩ := info_parts infoBlock
  have hAW := hA.below hW (Nat.le_refl _)
  have cQ := (hQ.below hW hQ.lt).cell (i := 0) rfl
  have c3 := hAW.2.1.cell (i := 3) rfl
  have hQlt := (hQ.below hW hQ.lt).lt
  have hablt := hAW.lt
  have hBW : B < W.heap.size := Nat.lt_of_lt_of_le hB hW.size
  have hlen := hx.few
  have HO := hid hAW.2.2
  have HX := hid hx
  have HJ := hid hJ
  have HY := hid hY
  have H0 := hid h0
  have JA : Hid (∀ (s : List Bk) (A : World) (o : Obj), J s A → J s (A.alloc o)) := hid (fun s A o h => hJ s A _ none h (World.grownBy_alloc A o none) (fun r e => by cases e))
  rcases hAW.2.2.2 with ⟨rfl, hn0⟩ | ⟨g, cap, cur, rfl, hbg, hgg, hnc, hcm, _, _⟩
  · have hl0 : x.l = [] := List.eq_nil_of_length_eq_zero hn0
    have HL0 := hid hl0
    have HOW0 : Hid ((W.alloc (.cells #[] 66)).ownsRow W.heap.size 66 3 (.slice (some ⟨W.heap.size, 0, none⟩) 0 0) 0 []) :=
      hid ⟨rfl, .inr ⟨W.heap.size, 0, #[], rfl, Nat.le_refl _, Blk.fresh W _ _, Nat.le_refl _, Nat.zero_le _, rfl, rfl⟩⟩
    clear hA hx hQ hW hJ hJx hY h0 hAW hn0 hl0 hlen hB
    refine callsIn_of_wp Tryd.func73 rfl hf ?_ hro
    simp only [Tryd.ntmps73, List.size_toArray, List.length_cons, List.length_nil, Nat.reduceAdd, Nat.reduceSub, Array.replicate_succ, Array.replicate_zero, List.push_toArray, List.append_toArray, List.nil_append, List.cons_append]
    gi_wp2_with (gi_at_builtin; refine wpListIn_append_nil _ rfl (.tmp 5) (.tmp 9) 63 rfl W.heap.size 66 iT 3 Tryd.underlying63 hiT _ _ _ rfl HOW0.out rfl ?_)
    gi_wp2
    gi_loopw [12] (fun i wr => i = .int .i64 0 ∧ J [] wr) (fun _ _ => 0)
    case atStart => exact ⟨rfl, JA.out _ _ _ H0.out⟩
    case round =>
      obtain ⟨rfl, hJs⟩ := hrel
      gi_wp2
      go_end0
      exact ⟨⟨_, rfl⟩, .inl ⟨_, HL0.out.symm, hJs⟩⟩
  · clear hA hx hQ hW hJ hJx hY h0 hAW hB hbg hgg hnc hcm
    generalize hn : x.l.length = m at *
    have HN := hid hn
    clear hn
    refine callsIn_of_wp Tryd.func73 rfl hf ?_ hro
    simp only [Tryd.ntmps73, List.size_toArray, List.length_cons, List.length_nil, Nat.reduceAdd, Nat.reduceSub, Array.replicate_succ, Array.replicate_zero, List.push_toArray, List.append_toArray, List.nil_append, List.cons_append]
    gi_wp2_with (gi_at_builtin; refine wpListIn_append_new _ rfl (.tmp 5) (.tmp 9) 63 rfl 66 iT (.agg bk0.cells.toArray) 3 24 Tryd.underlying63 hiT hz0 hz1 hz2 rfl (by decide) W.heap.size rfl ?c6 ⟨g, 0, none⟩ m cap (x.l.flatMap Bk.cells) rfl ?c0 ?c1 ?c2 ?c3 ?c4 ?_)
    case c6 => exact Blk.fresh W _ _
    case c0 => rw [flat_length Bk.cells_length, HN.out]
    case c1 => exact fun j u hj => World.ownsRow.cells (HO.out.alloc _) rfl j u hj
    case c2 =>
      intro v hv
      obtain ⟨y, _, hy⟩ := List.mem_flatMap.1 hv
      simp [Bk.cells] at hy
      rcases hy with rfl | rfl | rfl <;> rfl
    case c3 => unfold maxLen; omega
    case c4 => omega
    intro v' w1 hown' hgrow
    have hown : w1.ownsRow W.heap.size 66 3 v' x.l.length (x.l.flatMap Bk.cells) := by
      rw [HN.out]
      exact hown'
    obtain ⟨a1, cap1, rfl, hrows⟩ := rows_at hown
    rw [HN.out]
    have HROWS : Hid (∀ (i : Nat) (r : Bk), x.l[i]? = some r → ∃ g1, a1 = some ⟨g1, 0, none⟩ ∧ g1 ≠ B ∧
        w1.cell? ⟨g1, i * 3, none⟩ = some (.int .i64 r.pos) ∧ w1.cell? ⟨g1, i * 3 + 1, none⟩ = some (.int .i64 r.n) ∧ w1.cell? ⟨g1, i * 3 + 2, none⟩ = some (.int .i64 r.wd)) := by
      refine hid (fun i r hr => ?_)
      obtain ⟨g1, rfl, hc⟩ := hrows (by have := (List.getElem?_eq_some_iff.1 hr).1; omega)
      have hl := World.ownsRow.lt hown g1 rfl
      exact ⟨g1, rfl, by omega, hc i r hr⟩
    have HJ1 : Hid (J [] w1) := hid (HJ.out _ _ _ none (JA.out _ _ _ H0.out) hgrow (fun r e => by cases e))
    clear hown' hgrow hown hrows cQ c3 H0
    gi_wp2
    gi_loopw [12] (fun i wr => ∃ k : Nat, k ≤ m ∧ i = .int .i64 k ∧ Hid (J (x.l.take k) wr) ∧ Hid (KeptBut B w1 wr)) (fun i _ => (m - (intOf i).toNat))
    case atStart => exact ⟨0, by omega, rfl, HJ1, hid (KeptBut.refl _ _)⟩
    case round =>
      obtain ⟨k, hk, rfl, HJR, HKR⟩ := hrel
      by_cases hlt : k < m
      · obtain ⟨r, hr⟩ : ∃ r, x.l[k]? = some r := ⟨_, List.getElem?_eq_getElem (by rw [HN.out]; omega)⟩
        obtain ⟨g1, rfl, hg1, q0, q1, q2⟩ := HROWS.out k r hr
        have e0 := HKR.out.cell (p := ⟨g1, k * 3, none⟩) hg1 q0
        have e1 := HKR.out.cell (p := ⟨g1, k * 3 + 1, none⟩) hg1 q1
        have e2 := HKR.out.cell (p := ⟨g1, k * 3 + 2, none⟩) hg1 q2
        obtain ⟨fn, tmps, assign, body, hy, hR⟩ := HY.out (x.l.take k) r (wr.alloc (.cells #[.int .i64 r.pos, .int .i64 r.n, .int .i64 r.wd] 66)) (JA.out _ _ _ HJR.out) (by rw [List.length_take, HN.out]; omega)
        unfold encB at hy
        have HTK : Hid (x.l.take k ++ [r] = x.l.take (k + 1)) := hid (by rw [List.take_add_one, hr]; rfl)
        have HR := hid hR
        clear hr q0 q1 q2 hR
        gi_wp2
        refine HR.out.mono ?_
        rintro e W3 (⟨rfl, hJ3, hk3⟩ | ⟨rfl, hJx3⟩)
        · have HJ3 := hid hJ3
          have HK3 := hid hk3
          clear hJ3 hk3
          gi_wp2
          go_roundw
          case rel => exact ⟨k + 1, by omega, by go_num, hid (by rw [← HTK.out]; exact HJ3.out), hid ((HKR.out.alloc _).trans HK3.out)⟩
          case measure => simp [intOf]; omega
        · have HJ3 := hid hJx3
          clear hJx3
          gi_wp2
          refine bodyPost_ret (results_none rfl _ _ _) rfl ?_
          exact ⟨⟨_, rfl⟩, .inr ⟨_, trivial, HJ3.out⟩⟩
      · obtain rfl : k = m := by omega
        gi_wp2
        go_end0
        exact ⟨⟨_, rfl⟩, .inl ⟨_, List.take_of_length_le (by rw [HN.out]; exact Nat.le_refl _), HJR.out⟩⟩

theorem KeptBut.setCell {B : Nat} (W : World) (v : Value) : KeptBut B W (W.setCell ⟨B, 0, none⟩ v) :=
  ⟨by simp, fun k _ hn o ho _ => (Below.heap_setCell _ _ _ _ hn).trans ho⟩
theorem blk_own {X Y : World} {b : Nat} {c : Array Value} {t : TypeId} {row : Option Nat} (h : Blk X b c t) (hg : X.grownBy Y row) (hr : ∀ r, row = some r → ∃ o : Obj, X.heap[r]? = some o ∧ o.isCells = false) : Blk Y b c t := by
  refine (hg.block b h.lt (fun e => ?_)).trans h
  obtain ⟨o, ho, hc⟩ := hr b e.symm
  have h : X.heap[b]? = some (.cells c t (0, 0)) := h
  rw [h] at ho
  cases ho
  cases hc

theorem used_snoc (l : List Bk) (b : Bk) : used (l ++ [b]) = used l + b.n := by
  rw [used_append]
  simp [used]

theorem blocksM_in (F : Fence) (n : Nat) (hf : F.fn 59) (hro : F.round = none) (ab : Nat) (w : World) : CallsIn F n Tryd.prog 59 #[.pointer (some ⟨ab, 0, none⟩)] w fun e w' =>
    e = .returned (.func (.func 73) #[] #[.pointer (some ⟨w.heap.size, 0, none⟩)]) ∧ w.alloc (.cells #[.pointer (some ⟨ab, 0, none⟩)] 56) = w' := by
  refine callsIn_of_wp Tryd.func59 rfl hf ?_ hro
  simp only [Tryd.ntmps59, List.size_toArray, List.length_cons, List.length_nil, Nat.reduceAdd, Nat.reduceSub, Array.replicate_succ, Array.replicate_zero, List.push_toArray, List.append_toArray, List.nil_append, List.cons_append]
  gi_wp2
  go_ret
  exact ⟨rfl, rfl⟩

set_option maxRecDepth 100000 in
set_option maxHeartbeats 4000000 in
theorem used_in (F : Fence) (n : Nat) (h38 : F.fn 38) (h59 : F.fn 59) (h73 : F.fn 73) (hro : F.round = none) (hn : 6 ≤ n) (base ab mb : Nat) (lv : Value) (x : AS) (w : World) (hA : AllocAt w base ab mb lv x) (hx : x.ok) :
    CallsIn F n Tryd.prog 38 #[.pointer (some ⟨ab, 0, none⟩)] w fun e W' => e = .returned (.int .i64 (used x.l)) ∧ Below w.heap.size w W' := by
  have h1 : 1 ≤ n := by omega
  refine callsIn_of_wp_marks Tryd.func38 rfl h38 ?_ hro
  simp only [Tryd.ntmps38, List.size_toArray, List.length_cons, List.length_nil, Nat.reduceAdd, Nat.reduceSub, Array.replicate_succ, Array.replicate_zero, List.push_toArray, List.append_toArray, List.nil_append, List.cons_append]
  gi_wp2_with (gi_at_call 59; refine (blocksM_in F (n - 1) h59 hro _ _).mono ?_; rintro e w' ⟨rfl, rfl⟩)
  have hbs := Boxed.new w 3 (.int .i64 0)
  have bS := hbs.alloc (.cells #[.pointer (some ⟨ab, 0, none⟩)] 56)
  have bQ := Blk.fresh (w.alloc (.cells #[.int .i64 0] 3)) #[.pointer (some ⟨ab, 0, none⟩)] 56
  rw [World.size_alloc] at bQ
  have hB0 : Below w.heap.size w ((w.alloc (.cells #[.int .i64 0] 3)).alloc (.cells #[.pointer (some ⟨ab, 0, none⟩)] 56)) := ((Below.refl _ w).alloc (Nat.le_refl _) _).alloc (by simp) _
  have hsz : ((w.alloc (.cells #[.int .i64 0] 3)).alloc (.cells #[.pointer (some ⟨ab, 0, none⟩)] 56)).heap.size = w.heap.size + 2 := by simp
  have hA0 := hA.below hB0 (Nat.le_refl _)
  have hu := used_range x.l x.fr x.til hx.chain
  have hlo := hx.lo
  have hhi := hx.hi
  clear hbs
  generalize ((w.alloc (.cells #[.int .i64 0] 3)).alloc (.cells #[.pointer (some ⟨ab, 0, none⟩)] 56)) = W0 at *
  have HU : Hid (wrap64 (used x.l) = used x.l) := hid (by unfold wrap64; omega)
  clear hu hlo hhi
  refine wpIn_rangeFunc_ownH hro h1 (gf := 73) (lb := #[.pointer (some ⟨w.heap.size + 1, 0, none⟩)]) rfl h73 (enters_of Tryd.func73 (by kernel_rfl) rfl)
    (blocks_stops F (n - 1) h73 hro (by omega) base ab mb (w.heap.size + 1) w.heap.size lv x W0 hA0 hx bQ (by omega)) KeptBut.trans (fun W l o o' _ hl hc _ => KeptBut.putObj hl hc) (Below.refl _ _) (fun _ => rfl)
    (fun pre W => Boxed W w.heap.size 3 (.int .i64 (wrap64 (used pre))) ∧ Below w.heap.size w W)
    (fun _ _ _ => False)
    (OwnFrom.and (Own.from (boxed_own _ _ _) _) (ownFrom_below (Nat.le_refl _) (by omega)))
    (fun _ _ _ _ _ hs _ _ => hs)
    ⟨by rw [show wrap64 (used []) = 0 from by show wrap64 0 = 0; unfold wrap64; omega]; exact bS, hB0⟩
    (fun y a' W => ∃ Bx, Blk W Bx #[.int .i64 y.pos, .int .i64 y.n, .int .i64 y.wd] 66 ∧ a' = { tmps := #[.pointer (some ⟨ab, 0, none⟩), undef, .int .i64 0, .pointer (some ⟨w.heap.size, 0, none⟩), .pointer (some ⟨Bx, 0, none⟩), .pointer (some ⟨ab, 0, none⟩), .func (.func 73) #[] #[.pointer (some ⟨w.heap.size + 1, 0, none⟩)], .agg #[.int .i64 y.pos, .int .i64 y.n, .int .i64 y.wd], undef, undef, undef, undef, undef], defers := [] })
    (fun y a' _ X Y row hs hg hr => by obtain ⟨Bx, h2, h3⟩ := hs; exact ⟨Bx, blk_own h2 hg (fun r e => (hr r e).2), h3⟩)
    ?assign ?body ?done ?stop
  case assign =>
    rintro l pre y W K ⟨bS1, hB1⟩ hK
    unfold encB
    gi_wp2
    exact hK _ _ ((KeepsOthers.alloc _ _).from _) ((KeptBut.refl _ W).alloc _) ⟨bS1.alloc _, hB1.alloc hB1.size _⟩ ⟨W.heap.size, Blk.fresh W _ _, rfl⟩
  case body =>
    rintro l pre y a' W hl ⟨r, hr⟩ ⟨bS1, hB1⟩ ⟨Bx, bX, rfl⟩ hlt
    have cS := bS1.cell
    have fS := bS1.frozen
    have cX := bX.cell (i := 1) rfl
    have HB1 := hid hB1
    have HS1 := hid bS1
    have HSN : Hid (wrap64 (wrap64 (used pre) + y.n) = wrap64 (used (pre ++ [y]))) := hid (by rw [used_snoc]; unfold wrap64; omega)
    generalize used pre = up at *
    clear hB1 bS1 bX hl hr hlt
    gi_wp2
    exact ⟨(KeepsOthers.setCell _ _ _).from _, KeptBut.setCell _ _, by rw [← HSN.out]; exact HS1.out.set _, HB1.out.setCell (p := ⟨w.heap.size, 0, none⟩) (Nat.le_refl _) _⟩
  case done =>
    rintro D zs W hD rfl ⟨bS1, hB1⟩ hK
    have cS := bS1.cell
    rw [HU.out] at cS
    gi_wp2
    refine ⟨by simp, .inl ⟨_, _, rfl, run_takeDeferred hK, ?_⟩⟩
    exact ⟨_, results_tmp rfl _ _ _, rfl, hB1.trans (belowK_b (w := w) (Nat.le_refl _) W D _ _ (by omega) hK rfl rfl)⟩
  case stop =>
    rintro D c pre W _ _ h _
    exact h.elim

/-- Used. -/
theorem used_any (base ab mb : Nat) (lv : Value) (x : AS) (w : World) (hA : AllocAt w base ab mb lv x) (hx : x.ok) :
    Calls Tryd.prog 38 #[.pointer (some ⟨ab, 0, none⟩)] w fun e W' => e = .returned (.int .i64 (used x.l)) ∧ Keeps [] w W' := by
  refine (callsIn_wide.1 (used_in Fence.wide 6 trivial trivial trivial rfl (Nat.le_refl _) base ab mb lv x w hA hx)).mono ?_
  rintro e W' ⟨he, h⟩
  exact ⟨he, h.os, h.tape, h.output, h.size, fun k hk _ => h.block k hk⟩
end Go.Proofs.YtmciclhifcjoiaaDoor
