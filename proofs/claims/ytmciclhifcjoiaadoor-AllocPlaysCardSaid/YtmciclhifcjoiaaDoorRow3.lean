/-
  Rows of structs that the call itself made: copy on elements of several cells; what the cells are behind a copy, a store, an append that closes a gap.
-/
import Derived.Test.YtmciclhifcjoiaaDoorFlat
import Derived.Laws.CopyRow
import Derived.Laws.CopyOwn
import Derived.Laws.IdiomCopy
import Derived.Deep.RegionLaw
import Derived.RangeFuncBox
import Derived.ArgAppend
namespace Go.Proofs.YtmciclhifcjoiaaDoor
open Go.RowKit

/-- copy between two slices of structs: as many cells as the shorter has. -/
theorem run_copy_rows {P : Program} (w : World) (dT sT ty elem : TypeId) (sz g o dLen dCap : Nat) (a : Addr) (sLen sCap : Nat) (cur : Array Value) (t : TypeId) (cs : List Value)
    (hu : P.underlying dT = some (.slice elem)) (hs : (P.info? elem).map (·.size) = some sz)
    (hg : w.heap[g]? = some (.cells cur t (0, 0))) (hn : cs.length = Nat.min sLen dLen * sz)
    (hsrc : ∀ j v, cs[j]? = some v → w.cell? (a.add j) = some v) (hfit : o + cs.length ≤ cur.size) (h1 : ∀ v ∈ cs, v.oneCell' = true) :
    (Builtin.copy_ #[dT, sT] ty #[.slice (some ⟨g, o, none⟩) dLen dCap, .slice (some a) sLen sCap]).run P w =
      .ok (goInt (Nat.min sLen dLen)) (w.setRow g (cur.toList.take o ++ cs ++ cur.toList.drop (o + cs.length)).toArray) := by
  have hl := run_loadCells_list (P := P) w a cs hsrc
  have hst := run_storeCells_at P g o t cs 0 cur w hg (by simpa using hfit) h1
  cases hq : P.info? elem with
  | none => simp [hq] at hs
  | some i =>
    have hi : i.size = sz := by simpa [hq] using hs
    simp [Builtin.copy_, run_underlying hu, Builtin.lenOf, Builtin.firstCells, sizeOf, typeInfo, hq, hi, ← hn, hl, hst]

theorem run_copy_none_rows {P : Program} (w : World) (dT sT ty elem : TypeId) (d a : Option Addr) (dLen dCap sLen sCap : Nat) (hu : P.underlying dT = some (.slice elem)) (hs : ((P.info? elem).map (·.size)).isSome = true) (hn : Nat.min sLen dLen = 0) :
    (Builtin.copy_ #[dT, sT] ty #[.slice d dLen dCap, .slice a sLen sCap]).run P w = .ok (goInt 0) w := by
  cases hq : P.info? elem with
  | none => simp [hq] at hs
  | some i =>
    have hl : ∀ (x : Addr), (loadCells x 0).run P w = .ok #[] w := fun x => by simpa using run_loadCells_list (P := P) w x [] (by simp)
    cases d <;> cases a <;> simp [Builtin.copy_, run_underlying hu, Builtin.lenOf, Builtin.firstCells, sizeOf, typeInfo, hq, hn, storeCells, hl]

theorem keeps_setRow (w : World) (g : Nat) (cs : Array Value) : Keeps [g] w (w.setRow g cs) :=
  ⟨rfl, rfl, rfl, by simp [World.setRow], fun k _ hn => setRow_other w g k cs (by simpa using hn)⟩

/-- copy of structs, as one step of a region that draws its order. -/
theorem step_copy_rows {P : Program} {ops : Array Oper} {o : Oper} {a : Act} {w : World} {K : Act → World → Prop} {Q : Exit → Act → World → Prop} {E : Prop} (hgd : o.guard = none) (d s : Operand) (dT sT : TypeId)
    (ho : o.op = .call { callee := .builtin .copy, args := #[d, s], argTypes := #[dT, sT] }) (elem : TypeId) (sz : Nat) (hu : P.underlying dT = some (.slice elem)) (hsz : (P.info? elem).map (·.size) = some sz) (hsz0 : 0 < sz)
    (dp sp : Option Addr) (dLen dCap sLen sCap : Nat) (hd : a.eval d = .slice dp dLen dCap) (hs : a.eval s = .slice sp sLen sCap)
    (g off : Nat) (cur : List Value) (t : TypeId) (hg : w.heap[g]? = some (.cells cur.toArray t (0, 0))) (cs : List Value) (hn : cs.length = Nat.min sLen dLen * sz)
    (hpos : 0 < cs.length → dp = some ⟨g, off, none⟩ ∧ ∃ ad, sp = some ad ∧ ∀ j v, cs[j]? = some v → w.cell? (ad.add j) = some v)
    (hfit : off + cs.length ≤ cur.length) (h1 : ∀ v ∈ cs, v.oneCell' = true)
    (h : ∀ w', Hid (Blk w' g (splice cur off cs).toArray t) → Hid (Keeps [g] w w') → K (a.put o.dst (goInt (Nat.min sLen dLen))) w') :
    if Region.wanted o (yielded ops a.tmps) = true then Oper.wp P o a w K Q else E := by
  have hw : Region.wanted o (yielded ops a.tmps) = true := by simp [Region.wanted, hgd]
  rw [if_pos hw]
  by_cases h0 : cs.length = 0
  · obtain rfl : cs = [] := List.eq_nil_of_length_eq_zero h0
    have hm : Nat.min sLen dLen = 0 := by
      rcases Nat.eq_zero_or_pos (Nat.min sLen dLen) with h | h
      · exact h
      · have := Nat.mul_pos h hsz0
        simp only [List.length_nil] at hn
        omega
    have hrun := run_copy_none_rows (P := P) w dT sT o.type elem dp sp dLen dCap sLen sCap hu (by rw [hsz]; rfl) hm
    rw [hm] at h
    unfold Oper.wp
    simp [execOp, ho, resolve, invoke, builtin, hd, hs, hrun, Result.andThen]
    exact h w (show _ = _ by simpa [splice] using hg) (Keeps.refl _ _)
  · obtain ⟨rfl, ad, rfl, hsrc⟩ := hpos (by omega)
    have hrun := run_copy_rows (P := P) w dT sT o.type elem sz g off dLen dCap ad sLen sCap cur.toArray t cs hu hsz hg hn hsrc (by simpa using hfit) h1
    unfold Oper.wp
    simp [execOp, ho, resolve, invoke, builtin, hd, hs, hrun, Result.andThen]
    exact h _ (show _ = _ by simpa [splice] using setRow_heap w g _ _ t _ hg) (keeps_setRow w g _)

section
variable {α : Type} {f : α → List Value} {n : Nat}

theorem flat_take (hf : ∀ a, (f a).length = n) (l : List α) : ∀ k : Nat, (l.flatMap f).take (k * n) = (l.take k).flatMap f := by
  induction l with
  | nil => intro k; simp
  | cons a l ih =>
    intro k
    cases k with
    | zero => simp
    | succ k =>
      have e : (k + 1) * n = (f a).length + k * n := by rw [hf, Nat.succ_mul]; omega
      rw [List.flatMap_cons, e, List.take_length_add_append, ih k, List.take_succ_cons, List.flatMap_cons]

theorem flat_drop (hf : ∀ a, (f a).length = n) (l : List α) : ∀ k : Nat, (l.flatMap f).drop (k * n) = (l.drop k).flatMap f := by
  induction l with
  | nil => intro k; simp
  | cons a l ih =>
    intro k
    cases k with
    | zero => simp
    | succ k =>
      have e : (k + 1) * n = (f a).length + k * n := by rw [hf, Nat.succ_mul]; omega
      rw [List.flatMap_cons, e, List.drop_length_add_append, ih k, List.drop_succ_cons]

/-- A row of structs and room behind it: a splice of structs. -/
theorem flat_splice (hf : ∀ a, (f a).length = n) (L M : List α) (sp : List Value) (k : Nat) (h : k + M.length ≤ L.length) :
    splice (L.flatMap f ++ sp) (k * n) (M.flatMap f) = (L.take k ++ (M ++ L.drop (k + M.length))).flatMap f ++ sp := by
  have hl := flat_length hf L
  have hm := flat_length hf M
  have e1 : (L.flatMap f ++ sp).take (k * n) = (L.take k).flatMap f := by
    rw [List.take_append_of_le_length (by rw [hl]; exact Nat.mul_le_mul_right n (by omega)), flat_take hf]
  have e2 : (L.flatMap f ++ sp).drop (k * n + (M.flatMap f).length) = (L.drop (k + M.length)).flatMap f ++ sp := by
    have e : k * n + (M.flatMap f).length = (k + M.length) * n := by rw [hm, Nat.add_mul]
    rw [e, List.drop_append_of_le_length (by rw [hl]; exact Nat.mul_le_mul_right n (by omega)), flat_drop hf]
  unfold splice
  rw [e1, e2, List.flatMap_append, List.flatMap_append, List.append_assoc, List.append_assoc]
end

/-- The cells of a struct of three, stored one behind the other. -/
theorem set3 (A B : List Value) (k : Nat) (x0 x1 x2 y0 y1 y2 : Value) (h : A.length = k) :
    ((((A ++ ([x0, x1, x2] ++ B)).toArray.setIfInBounds k y0).setIfInBounds (k + 1) y1).setIfInBounds (k + 2) y2) = (A ++ ([y0, y1, y2] ++ B)).toArray := by
  subst h
  simp [List.setIfInBounds_toArray, List.set_append_right]

/-- append to a row of one's own: where the row lies behind it: where it lay, or in a new block. -/
theorem run_append_where {P : Program} (w : World) (base : Nat) (t ty e : TypeId) (i : TypeInfo) (z : Value) (size bytes : Nat) (ht : P.underlying t = some (.slice e)) (hi : P.info? e = some i) (hz : i.zero = some z)
    (hsize : i.size = size) (hby : i.bytes = bytes) (hzs : z.cells.size = size) (hsz : 0 < size)
    (v : Value) (n : Nat) (xs : List Value) (hown : w.ownsRow base e size v n xs)
    (a : Addr) (m c : Nat) (news : List Value) (hl : news.length = m * size) (hnews : ∀ j u, news[j]? = some u → w.cell? (a.add j) = some u) (h1 : ∀ u ∈ news, u.oneCell' = true)
    (h63 : n + m ≤ maxLen) (hbytes : (n + m) * bytes ≤ 140737488355328) (hbase : base ≤ w.heap.size) :
    ∃ v' w', (Builtin.append_ #[t, t] ty #[v, .slice (some a) m c]).run P w = .ok v' w' ∧ w'.ownsRow base e size v' (n + m) (xs ++ news) ∧ w.grownBy w' v.ownBlock ∧
      ∀ g, v'.ownBlock = some g → v.ownBlock = some g ∨ w.heap.size ≤ g := by
  obtain ⟨v', w', hrun, r1, r2, _⟩ := run_append_own (P := P) w base t ty e i z size bytes ht hi hz hsize hby hzs hsz v n xs hown a m c news hl hnews h1 h63 hbytes hbase
  refine ⟨v', w', hrun, r1, r2, ?_⟩
  have hown0 := hown
  obtain ⟨hxl, ⟨rfl, rfl⟩ | ⟨g0, cap, cur, rfl, hb, hg, hn, hc, hcs, hx⟩⟩ := hown
  · obtain ⟨v2, w2, hrun2, s1, _, _⟩ := run_append_own (P := P) w w.heap.size t ty e i z size bytes ht hi hz hsize hby hzs hsz (.slice none 0 0) 0 xs ⟨hxl, .inl ⟨rfl, rfl⟩⟩ a m c news hl hnews h1 h63 hbytes (Nat.le_refl _)
    rw [hrun] at hrun2
    cases hrun2
    exact fun g hgb => .inr (s1.lt g hgb).1
  · by_cases hr : n + m ≤ cap
    · have hcell : ∀ j, j < news.length → (w.cell? ⟨g0, 0 + n * i.size + j, none⟩).isSome = true := by
        intro j hj
        have : 0 + n * i.size + j < cur.size := by
          rw [hcs, hsize]
          have h2 := Nat.mul_le_mul_right size hr
          rw [Nat.add_mul] at h2
          omega
        rw [Blk.cell (show Blk w g0 cur e from hg) (Array.getElem?_eq_getElem this)]
        rfl
      have hfz : ∀ j, j < news.length → w.frozen? ⟨g0, 0 + n * i.size + j, none⟩ = false := by
        intro j _
        exact Blk.frozen (show Blk w g0 cur e from hg) _
      have hrun2 := run_append_room_cells (P := P) w t ty e i ht hi g0 0 n cap a m c news (by rw [hsize]; exact hl) hnews h1 hr hcell hfz
      rw [hrun] at hrun2
      cases hrun2
      exact fun g hgb => .inl hgb
    · obtain ⟨v2, w2, hrun2, s1, _⟩ := run_append_arg_grows (P := P) w t ty e i z size bytes ht hi hz hsize hby hzs hsz ⟨g0, 0, none⟩ n cap xs hxl (fun j u hj => World.ownsRow.cells hown0 rfl j u hj) a m c news hl hnews (by omega) h63 hbytes
      rw [hrun] at hrun2
      cases hrun2
      exact fun g hgb => .inr (s1.lt g hgb).1

theorem wpList_append_where {P : Program} {w : World} {ops : Array Oper} {rest : List Oper} {o : Oper} {a : Act} {Q : Exit → Act → World → Prop} (hgd : o.guard = none) (s x : Operand) (t : TypeId)
    (ho : o.op = .call { callee := .builtin .append, args := #[s, x], argTypes := #[t, t] })
    (base : Nat) (e : TypeId) (i : TypeInfo) (z : Value) (size bytes : Nat) (ht : P.underlying t = some (.slice e)) (hi : P.info? e = some i) (hz : i.zero = some z)
    (hsize : i.size = size) (hby : i.bytes = bytes) (hzs : z.cells.size = size) (hsz : 0 < size)
    (v : Value) (n : Nat) (xs : List Value) (hs : a.eval s = v) (hown : w.ownsRow base e size v n xs)
    (ad : Addr) (m c : Nat) (news : List Value) (hx : a.eval x = .slice (some ad) m c) (hl : news.length = m * size) (hnews : ∀ j u, news[j]? = some u → w.cell? (ad.add j) = some u) (h1 : ∀ u ∈ news, u.oneCell' = true)
    (h63 : n + m ≤ maxLen) (hbytes : (n + m) * bytes ≤ 140737488355328) (hbase : base ≤ w.heap.size)
    (h : ∀ v' w', w'.ownsRow base e size v' (n + m) (xs ++ news) → w.grownBy w' v.ownBlock → (∀ g, v'.ownBlock = some g → v.ownBlock = some g ∨ w.heap.size ≤ g) → wpList P ops Q rest (a.put o.dst v') w') : wpList P ops Q (o :: rest) a w := by
  refine wpList_plain hgd fun K hK => ?_
  obtain ⟨v', w', hrun, r1, r2, r3⟩ := run_append_where (P := P) w base t o.type e i z size bytes ht hi hz hsize hby hzs hsz v n xs hown ad m c news hl hnews h1 h63 hbytes hbase
  unfold Oper.wp
  simp [execOp, ho, resolve, invoke, builtin, hs, hx, hrun, Result.andThen]
  exact hK _ _ (h v' w' r1 r2 r3)

theorem run_slots {w : World} {base n : Nat} {t : TypeId} {v : Value} {xs : List Value} {sz : Nat} (h : w.ownsRow base t sz v (n + 1) xs) :
    ∃ (g cap : Nat) (sp : List Value), v = .slice (some ⟨g, 0, none⟩) (n + 1) cap ∧ base ≤ g ∧ Blk w g (xs ++ sp).toArray t ∧ n + 1 ≤ cap ∧ cap ≤ maxLen ∧ xs.length + sp.length = cap * sz := by
  obtain ⟨hl, ⟨_, h0⟩ | ⟨g, cap, cur, rfl, hb, hg, h1, h2, h3, h4⟩⟩ := h
  · omega
  · refine ⟨g, cap, cur.toList.drop ((n + 1) * sz), rfl, hb, ?_, h1, h2, ?_⟩
    · unfold Blk
      rw [hg, ← h4, List.take_append_drop]
    · rw [hl, List.length_drop, Array.length_toList, h3]
      have := Nat.mul_le_mul_right sz h1
      omega

theorem owns_of_slots {w : World} {base n : Nat} {t : TypeId} {xs : List Value} {sz g cap : Nat} {sp : List Value} (hb : base ≤ g) (hB : Blk w g (xs ++ sp).toArray t) (hx : xs.length = n * sz) (h1 : n ≤ cap) (h2 : cap ≤ maxLen) (h3 : xs.length + sp.length = cap * sz) :
    w.ownsRow base t sz (.slice (some ⟨g, 0, none⟩) n cap) n xs := by
  refine ⟨hx, .inr ⟨g, cap, (xs ++ sp).toArray, rfl, hb, hB, h1, h2, ?_, ?_⟩⟩
  · simp; omega
  · simp [← hx]
end Go.Proofs.YtmciclhifcjoiaaDoor
