/-
  The package alloc: Blocks, gone through by a function that collects; 'blocks' of chapter 3's statements.
-/
import Derived.Test.YtmciclhifcjoiaaDoorLaw03
import Derived.Laws.AppendOwnNone
namespace Go.Proofs.YtmciclhifcjoiaaDoor
open Go.RowKit

theorem flat_one (b : Bk) : [b].flatMap Bk.cells = b.cells := by simp

/-- The function that collects: one more; is there to be another? -/
def Yield1 (w : World) (base L : Nat) (lvL : Value) (j : Nat) (xs : List Value) (b : Bk) (most : Int) (e : Ending) (w' : World) : Prop :=
  e = .returned (.bool (decide ((j : Int) + 1 < most))) ∧ ∃ lv', Blk w' L #[lv'] 63 ∧ w'.ownsRow base 66 3 lv' (j + 1) (xs ++ b.cells) ∧ Keeps ([L] ++ lvL.ownBlock.toList) w w'

set_option maxRecDepth 100000 in
set_option maxHeartbeats 2000000 in
theorem yield1_any (base L P j : Nat) (lvL : Value) (xs : List Value) (b : Bk) (most : Int) (w : World) (hL : Blk w L #[lvL] 63) (hP : Blk w P #[.int .i64 most] 3) (hO : w.ownsRow base 66 3 lvL j xs)
    (hb : base ≤ w.heap.size) (hLb : L < base) (hPb : P < base) (hLP : L ≠ P) (hj : j ≤ 100000) :
    Calls Tryd.prog 60 #[.agg #[.int .i64 b.pos, .int .i64 b.n, .int .i64 b.wd], .pointer (some ⟨L, 0, none⟩), .pointer (some ⟨P, 0, none⟩)] w (Yield1 w base L lvL j xs b most) := by
  obtain ⟨iT, hiT, hz0, hz1, hz2⟩ := info_parts infoBlock
  have cL := hL.cell (i := 0) rfl
  have cP := hP.cell (i := 0) rfl
  have fL := hL.frozen 0
  have hLlt := hL.lt
  have hPlt := hP.lt
  have HL := hid hL
  have HP := hid hP
  obtain ⟨a, cap, rfl⟩ : ∃ a cap, lvL = .slice a j cap := by
    rcases hO.2 with ⟨rfl, rfl⟩ | ⟨g, cap, cur, rfl, _⟩
    · exact ⟨none, 0, rfl⟩
    · exact ⟨_, cap, rfl⟩
  have HO := hid hO
  clear hL hP hO
  obtain ⟨p0, p1, p2⟩ := b
  go_enter Tryd.func60, Tryd.ntmps60
  go_wp2_with (at_builtin; refine wpList_append_where rfl (.tmp 5) (.tmp 7) 63 rfl base 66 iT (.agg bk0.cells.toArray) 3 24 Tryd.underlying63 hiT hz0 hz1 hz2 rfl (by decide) _ _ _ rfl ((HO.out.alloc _).alloc _) ⟨w.heap.size + 1, 0, none⟩ 1 1 [.int .i64 p0, .int .i64 p1, .int .i64 p2] rfl rfl ?c1 ?c2 ?c3 ?c4 ?c5 ?_)
  case c1 => intro j y hy; match j, hy with | 0, hy => simp at hy; subst hy; simp [Addr.add] | 1, hy => simp at hy; subst hy; simp [Addr.add] | 2, hy => simp at hy; subst hy; simp [Addr.add] | j + 3, hy => simp at hy
  case c2 => intro y hy; simp at hy; rcases hy with rfl | rfl | rfl <;> rfl
  case c3 => unfold maxLen; omega
  case c4 => omega
  case c5 => simp; omega
  intro v' w2 hown' hgrow hwhere
  have hGK := grown_list hgrow
  have hin : ∀ z, z ∈ (Value.slice a j cap).ownBlock.toList → base ≤ z := by
    intro z hz
    exact (World.ownsRow.lt HO.out z (by simpa using hz)).1
  have hL2 := ((HL.out.alloc (.cells #[.int .i64 p0, .int .i64 p1, .int .i64 p2] 66)).alloc (.cells #[.int .i64 p0, .int .i64 p1, .int .i64 p2] 66)).keeps hGK (fun hm => by have := hin _ hm; omega)
  have hP2 := ((HP.out.alloc (.cells #[.int .i64 p0, .int .i64 p1, .int .i64 p2] 66)).alloc (.cells #[.int .i64 p0, .int .i64 p1, .int .i64 p2] 66)).keeps hGK (fun hm => by have := hin _ hm; omega)
  have hK2 : Keeps ([L] ++ (Value.slice a j cap).ownBlock.toList) w w2 := (((Keeps.refl _ w).alloc _).alloc _).trans (hGK.mono (by intro z hz; exact List.mem_append_right _ hz))
  obtain ⟨g, cap2, rfl⟩ := ownsRow_succ hown'
  have cL2 := hL2.cell (i := 0) rfl
  have fL2 := hL2.frozen 0
  have cP2 := hP2.cell (i := 0) rfl
  have HOW := hid hown'
  have HK2 := hid hK2
  have HL2 := hid hL2
  have HLB := hid hLb
  have HNE : Hid (∀ q, q = L → base ≤ q → False) := hid (fun q h1 h2 => by omega)
  clear hown' hgrow hwhere hGK hin hL2 hP2 hK2 cL cP fL hLb
  go_wp2_with fail
  go_ret
  refine ⟨rfl, _, HL2.out.set 0 _, ownsRow_keeps HOW.out ((Keeps.refl [L] w2).set (by simp) _) (fun z hz => ?_), HK2.out.set (by simp) _⟩
  simp at hz
  subst hz
  exact HLB.out

/-- Blocks, gone through by the function that collects, from nothing on. -/
def IterPost (w : World) (L : Nat) (l : List Bk) (most : Int) (e : Ending) (w' : World) : Prop :=
  (∃ v, e = .returned v) ∧ ∃ lv', Blk w' L #[lv'] 63 ∧ w'.ownsRow w.heap.size 66 3 lv' (l.take most.toNat).length ((l.take most.toNat).flatMap Bk.cells) ∧ Keeps [L] w w'

theorem ownsRow_mono {w : World} {base base' n size : Nat} {t : TypeId} {v : Value} {xs : List Value} (h : w.ownsRow base t size v n xs) (hb : base' ≤ base) : w.ownsRow base' t size v n xs := by
  refine ⟨h.1, ?_⟩
  rcases h.2 with hn | ⟨q, cap, cur, rfl, h1, h2, rest⟩
  · exact .inl hn
  · exact .inr ⟨q, cap, cur, rfl, Nat.le_trans hb h1, h2, rest⟩
theorem len_form {w : World} {base size : Nat} {e : TypeId} {v : Value} {n : Nat} {xs : List Value} (h : w.ownsRow base e size v n xs) : ∃ a cap, v = .slice a n cap := by
  rcases h.2 with ⟨rfl, rfl⟩ | ⟨g, cap, cur, rfl, _⟩
  · exact ⟨none, 0, rfl⟩
  · exact ⟨_, cap, rfl⟩

theorem iter_none {w w' : World} {L : Nat} {l : List Bk} {most : Int} (hl : l = []) (hL : Blk w L #[.slice none 0 0] 63) (hK : Keeps [] w w') (v : Value) : IterPost w L l most (.returned v) w' := by
  subst hl
  refine ⟨⟨_, rfl⟩, .slice none 0 0, hL.keeps hK (by simp), ?_, hK.mono (by simp)⟩
  simp
  exact World.ownsRow_nil _ _ _ _

theorem take_flat {l : List Bk} {k : Nat} {r : Bk} (hr : l[k]? = some r) : (l.take (k + 1)).flatMap Bk.cells = (l.take k).flatMap Bk.cells ++ r.cells ∧ (l.take (k + 1)).length = k + 1 := by
  have hk := (List.getElem?_eq_some_iff.1 hr).1
  refine ⟨?_, by simp; omega⟩
  rw [List.take_add_one, hr, List.flatMap_append]
  simp

/-- A round is over: what was collected. -/
theorem iter_step {w w1 wr w2 w3 : World} {base L k : Nat} {l : List Bk} {lvL lv' : Value} {r : Bk} (hr : l[k]? = some r) (hb : w1.heap.size = base) (hK : Keeps [L] w1 wr) (hK2 : Keeps [] wr w2)
    (hO : wr.ownsRow base 66 3 lvL k ((l.take k).flatMap Bk.cells)) (hO3 : w3.ownsRow base 66 3 lv' (k + 1) ((l.take k).flatMap Bk.cells ++ r.cells)) (hK3 : Keeps ([L] ++ lvL.ownBlock.toList) w2 w3) :
    w3.ownsRow base 66 3 lv' (k + 1) ((l.take (k + 1)).flatMap Bk.cells) ∧ Keeps [L] w1 w3 := by
  have _ := w
  rw [(take_flat hr).1]
  refine ⟨hO3, (hK.trans (hK2.mono (by simp))).drop hK3 (fun z hz => ?_)⟩
  rcases List.mem_append.1 hz with hz | hz
  · exact .inl hz
  · right
    have := World.ownsRow.lt hO z (by simpa using hz)
    omega

/-- It is over. -/
theorem iter_end {w w1 w3 : World} {L k : Nat} {l : List Bk} {most : Int} {lv' : Value} (hk : k ≤ l.length) (hm : (k : Int) = most ∨ (k = l.length ∧ (k : Int) < most)) (hK01 : Keeps [] w w1) (hL : Blk w3 L #[lv'] 63)
    (hO : w3.ownsRow w1.heap.size 66 3 lv' k ((l.take k).flatMap Bk.cells)) (hK : Keeps [L] w1 w3) (v : Value) : IterPost w L l most (.returned v) w3 := by
  have e : l.take most.toNat = l.take k := by
    rcases hm with h | ⟨h1, h2⟩
    · rw [show most.toNat = k by omega]
    · rw [List.take_of_length_le (by omega), List.take_of_length_le (by omega)]
  refine ⟨⟨_, rfl⟩, lv', hL, ?_, (hK01.mono (by simp)).trans hK⟩
  rw [e, List.length_take, Nat.min_eq_left hk]
  exact ownsRow_mono hO hK01.size

set_option maxRecDepth 100000 in
set_option maxHeartbeats 4000000 in
theorem iter_any (base ab mb L P Q : Nat) (lv : Value) (x : AS) (most : Int) (w : World) (hA : AllocAt w base ab mb lv x) (hx : x.ok) (hL : Blk w L #[.slice none 0 0] 63) (hP : Blk w P #[.int .i64 most] 3) (hQ : Blk w Q #[.pointer (some ⟨ab, 0, none⟩)] 56)
    (hm : 1 ≤ most) (hLP : L ≠ P) :
    Calls Tryd.prog 73 #[.func (.func 60) #[] #[.pointer (some ⟨L, 0, none⟩), .pointer (some ⟨P, 0, none⟩)], .pointer (some ⟨Q, 0, none⟩)] w (IterPost w L x.l most) := by
  obtain ⟨iT, hiT, hz0, hz1, hz2⟩ := info_parts infoBlock
  have cQ := hQ.cell (i := 0) rfl
  have c3 := hA.2.1.cell (i := 3) rfl
  have hlen := hx.few
  have hQlt := hQ.lt
  have hablt := hA.lt
  have hPlt := hP.lt
  have hLlt := hL.lt
  have HL := hid hL
  have HP := hid hP
  have HOW0 : Hid ((w.alloc (.cells #[] 66)).ownsRow w.heap.size 66 3 (.slice (some ⟨w.heap.size, 0, none⟩) 0 0) 0 []) :=
    hid ⟨rfl, .inr ⟨w.heap.size, 0, #[], rfl, Nat.le_refl _, Blk.fresh w _ _, Nat.le_refl _, Nat.zero_le _, rfl, rfl⟩⟩
  have hO := hA.2.2
  have HO := hid hO
  rcases hO.2 with ⟨rfl, hn0⟩ | ⟨g, cap, cur, rfl, hbg, hgg, hnc, hcm, _, _⟩
  · have hl0 : x.l = [] := List.eq_nil_of_length_eq_zero hn0
    have HL0 := hid hl0
    have HX0 := hid hx
    clear hA hx hL hP hQ hO hn0 hl0 hlen
    go_enter Tryd.func73, Tryd.ntmps73
    go_wp2_with (at_builtin; refine wpList_append_own_none rfl (.tmp 5) (.tmp 9) 63 rfl w.heap.size 66 iT 3 Tryd.underlying63 hiT _ _ _ rfl HOW0.out rfl ?_)
    go_wp2_with fail
    refine wp_loop_rounds 1 ?_
    rw [rounds_succ]
    go_wp2_with fail
    go_end0
    exact iter_none HL0.out HL.out ((Keeps.refl _ _).alloc _) _
  · have HGL : Hid (g < w.heap.size) := hid (Array.getElem?_eq_some_iff.1 hgg).1
    clear hA hx hL hP hQ hO hgg hbg hnc hcm
    generalize hn : x.l.length = n at *
    have HN := hid hn
    clear hn
    go_enter Tryd.func73, Tryd.ntmps73
    go_wp2_with (at_builtin; refine wpList_append_where rfl (.tmp 5) (.tmp 9) 63 rfl w.heap.size 66 iT (.agg bk0.cells.toArray) 3 24 Tryd.underlying63 hiT hz0 hz1 hz2 rfl (by decide) _ _ _ rfl HOW0.out ⟨g, 0, none⟩ n cap (x.l.flatMap Bk.cells) rfl ?c0 ?c1 ?c2 ?c3 ?c4 ?c5 ?_)
    case c0 => rw [flat_length Bk.cells_length, HN.out]
    case c1 => exact fun j u hj => World.ownsRow.cells (HO.out.alloc _) rfl j u hj
    case c2 =>
      intro v hv
      obtain ⟨y, _, hy⟩ := List.mem_flatMap.1 hv
      simp [Bk.cells] at hy
      rcases hy with rfl | rfl | rfl <;> rfl
    case c3 => unfold maxLen; omega
    case c4 => omega
    case c5 => simp
    intro v' w1 hown' hgrow _
    have hK1 : Keeps [] w w1 := ((Keeps.refl [] w).alloc (.cells #[] 66)).drop (grown_list hgrow) (by intro z hz; simp [Value.ownBlock] at hz; exact .inr (by omega))
    have hown : w1.ownsRow w.heap.size 66 3 v' x.l.length (x.l.flatMap Bk.cells) := by
      rw [HN.out]
      simpa using hown'
    obtain ⟨a1, cap1, rfl, hrows⟩ := rows_at hown
    rw [HN.out]
    have HROWS : Hid (∀ (i : Nat) (r : Bk), x.l[i]? = some r → ∃ g1, a1 = some ⟨g1, 0, none⟩ ∧ w.heap.size ≤ g1 ∧ g1 < w1.heap.size ∧
        w1.cell? ⟨g1, i * 3, none⟩ = some (.int .i64 r.pos) ∧ w1.cell? ⟨g1, i * 3 + 1, none⟩ = some (.int .i64 r.n) ∧ w1.cell? ⟨g1, i * 3 + 2, none⟩ = some (.int .i64 r.wd)) := by
      refine hid (fun i r hr => ?_)
      obtain ⟨g1, rfl, hc⟩ := hrows (by have := (List.getElem?_eq_some_iff.1 hr).1; omega)
      have hl := World.ownsRow.lt hown g1 rfl
      exact ⟨g1, rfl, hl.1, hl.2, hc i r hr⟩
    have HL1 := hid (HL.out.keeps hK1 (by simp))
    have HP1 := hid (HP.out.keeps hK1 (by simp))
    have HK1 := hid hK1
    have hs1 := hK1.size
    clear hown' hgrow hown hrows cQ c3 hK1
    go_wp2_with fail
    go_loopw [12] (fun i wr => ∃ (k : Nat) (lvL : Value), k ≤ n ∧ (k : Int) < most ∧ i = .int .i64 k ∧ Hid (Blk wr L #[lvL] 63) ∧ Hid (wr.ownsRow w1.heap.size 66 3 lvL k ((x.l.take k).flatMap Bk.cells)) ∧ Keeps [L] w1 wr) (fun i _ => (n - (intOf i).toNat))
    case atStart => exact ⟨0, .slice none 0 0, by omega, by omega, rfl, HL1, hid (World.ownsRow_nil _ _ _ _), Keeps.refl _ _⟩
    case round =>
      obtain ⟨k, lvL, hk, hkm, rfl, HLR, HOR, hKR⟩ := hrel
      by_cases hlt : k < n
      · obtain ⟨r, hr⟩ : ∃ r, x.l[k]? = some r := ⟨_, List.getElem?_eq_getElem (by rw [HN.out]; omega)⟩
        obtain ⟨g1, rfl, hg1, hg2, q0, q1, q2⟩ := HROWS.out k r hr
        have e0 := (hKR.cell (p := ⟨g1, k * 3, none⟩) hg2 (by simp; omega)).trans q0
        have e1 := (hKR.cell (p := ⟨g1, k * 3 + 1, none⟩) hg2 (by simp; omega)).trans q1
        have e2 := (hKR.cell (p := ⟨g1, k * 3 + 2, none⟩) hg2 (by simp; omega)).trans q2
        have HRK := hid hr
        have HY := hid (fun (o : Obj) => yield1_any w1.heap.size L P k lvL ((x.l.take k).flatMap Bk.cells) r most (wr.alloc o) (HLR.out.alloc o) ((HP1.out.keeps hKR (by simp; omega)).alloc o) (HOR.out.alloc o) (Nat.le_trans hKR.size (by simp)) (by omega) (by omega) hLP (by omega))
        clear hr q0 q1 q2
        by_cases hmk : (k : Int) + 1 < most
        · have HD : Hid (decide ((k : Int) + 1 < most) = true) := hid (by simpa using hmk)
          go_wp2_with fail
          refine (HY.out _).mono ?_
          rintro e w3 ⟨rfl, lv3, hL3, hO3, hK3⟩
          rw [HD.out]
          have hst := iter_step (w := w) HRK.out rfl hKR ((Keeps.refl [] wr).alloc _) HOR.out hO3 hK3
          have HL3 := hid hL3
          have HO3 := hid hst.1
          have HK3 := hid hst.2
          clear hst hL3 hO3 hK3 HY
          go_wp2_with fail
          go_roundw
          case rel => exact ⟨k + 1, lv3, by omega, by omega, by go_num, HL3, HO3, HK3.out⟩
          case measure => simp [intOf]; omega
        · have HD : Hid (decide ((k : Int) + 1 < most) = false) := hid (by simpa using hmk)
          go_wp2_with fail
          refine (HY.out _).mono ?_
          rintro e w3 ⟨rfl, lv3, hL3, hO3, hK3⟩
          rw [HD.out]
          have hst := iter_step (w := w) HRK.out rfl hKR ((Keeps.refl [] wr).alloc _) HOR.out hO3 hK3
          have HL3 := hid hL3
          have HO3 := hid hst.1
          have HK3 := hid hst.2
          clear hst hL3 hO3 hK3 HY
          go_wp2_with fail
          go_end0
          exact iter_end (k := k + 1) (by rw [HN.out]; omega) (.inl (by omega)) HK1.out HL3.out HO3.out HK3.out _
      · obtain rfl : k = n := by omega
        go_wp2_with fail
        go_end0
        exact iter_end (k := k) (by rw [HN.out]; omega) (.inr ⟨HN.out.symm, hkm⟩) HK1.out HLR.out HOR.out hKR _

theorem blocksM_any (ab : Nat) (w : World) : Calls Tryd.prog 59 #[.pointer (some ⟨ab, 0, none⟩)] w fun e w' =>
    e = .returned (.func (.func 73) #[] #[.pointer (some ⟨w.heap.size, 0, none⟩)]) ∧ w.alloc (.cells #[.pointer (some ⟨ab, 0, none⟩)] 56) = w' := by
  go_enter Tryd.func59, Tryd.ntmps59
  go_wp2_with fail
  go_ret
  exact ⟨rfl, rfl⟩

theorem seq_not_nil (c : Array Value) (w : World) : (binOp .eql 111 (.func (.func 73) #[] c) .nilFunc).run Tryd.prog w = .ok (.bool false) w := by kernel_rfl

/-- What 'blocks' answers: the first blocks, in a slice of its own. -/
def BlocksPost (w : World) (l : List Bk) (most : Int) (e : Ending) (w' : World) : Prop :=
  ∃ v, e = .returned v ∧ w'.ownsRow w.heap.size 66 3 v (l.take most.toNat).length ((l.take most.toNat).flatMap Bk.cells) ∧ Keeps [] w w'

set_option maxRecDepth 100000 in
set_option maxHeartbeats 2000000 in
theorem blocks_any (base ab mb : Nat) (lv : Value) (x : AS) (most : Int) (w : World) (hA : AllocAt w base ab mb lv x) (hx : x.ok) (hm : 1 ≤ most) :
    Calls Tryd.prog 36 #[.pointer (some ⟨ab, 0, none⟩), .int .i64 most] w (BlocksPost w x.l most) := by
  have HA := hid hA
  have HX := hid hx
  have d1 : decide (most < 1) = false := by simp; omega
  have HP := hid (Blk.fresh w #[.int .i64 most] 3)
  have HM := hid hm
  clear hA hx hm
  have cP := HP.out.cell (i := 0) rfl
  have hsn := seq_not_nil
  go_enter Tryd.func36, Tryd.ntmps36
  go_wp2_with fail
  refine (blocksM_any ab _).mono ?_
  rintro e w1 ⟨rfl, rfl⟩
  go_wp2_with fail
  have hK : Keeps [] w (((w.alloc (.cells #[.int .i64 most] 3)).alloc (.cells #[.pointer (some ⟨ab, 0, none⟩)] 56)).alloc (.cells #[.slice none 0 0] 63)) := (((Keeps.refl [] w).alloc _).alloc _).alloc _
  have HK := hid hK
  clear hK cP hsn
  refine (iter_any base ab mb (w.heap.size + 1 + 1) w.heap.size (w.heap.size + 1) lv x most _ (HA.out.keeps HK.out (by simp) (by simp)) HX.out (Blk.fresh_at (by simp) _ _) ((HP.out.alloc _).alloc _) ((Blk.fresh_at (by simp) _ _).alloc _) HM.out (by omega)).mono ?_
  rintro e w4 ⟨⟨v, rfl⟩, lv', hL4, hO4, hK4⟩
  have c0 := hL4.cell (i := 0) rfl
  have HO4 := hid hO4
  have HK4 := hid hK4
  clear hL4 hO4 hK4
  go_wp2_with fail
  go_ret
  exact ⟨lv', rfl, ownsRow_mono HO4.out HK.out.size, HK.out.drop HK4.out (by intro z hz; simp at hz; omega)⟩
end Go.Proofs.YtmciclhifcjoiaaDoor
