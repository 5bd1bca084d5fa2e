/-
  The package alloc: Put. (Printed by gen_al4.py.)
-/
import Derived.Test.YtmciclhifcjoiaaDoorAl3
namespace Go.Proofs.YtmciclhifcjoiaaDoor
open Go.RowKit

theorem blk_setCells {g : Nat} {t : TypeId} : ∀ (news c : List Value) (o : Nat) (w : World), Blk w g c.toArray t → o + news.length ≤ c.length → Blk (w.setCells g o news) g (splice c o news).toArray t
  | [], c, o, w, h, _ => by simpa [World.setCells, splice] using h
  | v :: news, c, o, w, h, hl => by
    have hs := h.set o v
    rw [List.setIfInBounds_toArray] at hs
    have ih := blk_setCells news (c.set o v) (o + 1) _ hs (by simp at hl ⊢; omega)
    have e : splice (c.set o v) (o + 1) news = splice c o (v :: news) := by
      simp at hl
      have := list_seg_step c o v news (by omega)
      simpa [splice, Nat.add_assoc, Nat.add_comm 1] using this
    rw [e] at ih
    exact ih

theorem keeps_setCells (g : Nat) : ∀ (news : List Value) (o : Nat) (w : World), Keeps [g] w (w.setCells g o news)
  | [], _, w => Keeps.refl _ _
  | v :: news, o, w => ((Keeps.refl [g] w).set (by simp) v).trans (keeps_setCells g news (o + 1) _)

/-- append of structs where there is room, as one step of a region that draws its order. -/
theorem step_append_rows {P : Program} {ops : Array Oper} {o : Oper} {a : Act} {w : World} {K : Act → World → Prop} {Q : Exit → Act → World → Prop} {E : Prop}
    (hg : o.guard = none) (s x : Operand) (t : TypeId) (hop : o.op = Op.call { callee := Callee.builtin Builtin.append, args := #[s, x], argTypes := #[t, t] })
    (e : TypeId) (i : TypeInfo) (size : Nat) (h1 : P.underlying t = some (.slice e)) (h2 : P.info? e = some i) (h4 : i.size = size)
    (b n cap : Nat) (hs : a.eval s = .slice (some ⟨b, 0, none⟩) n cap)
    (ad : Option Addr) (m c : Nat) (news : List Value) (hx : a.eval x = .slice ad m c) (hn : news.length = m * size) (hc : ∃ q, ad = some q ∧ ∀ j u, news[j]? = some u → w.cell? (q.add j) = some u) (h1c : ∀ u ∈ news, u.oneCell' = true)
    (hroom : n + m ≤ cap) (cur : List Value) (ct : TypeId) (hB : Blk w b cur.toArray ct) (hfit : n * size + news.length ≤ cur.length)
    (hK : ∀ w', Hid (Blk w' b (splice cur (n * size) news).toArray ct) → Hid (Keeps [b] w w') → K (a.put o.dst (.slice (some ⟨b, 0, none⟩) (n + m) cap)) w') :
    if Region.wanted o (yielded ops a.tmps) = true then Oper.wp P o a w K Q else E := by
  obtain ⟨q, rfl, hc⟩ := hc
  refine step_append_room hg s x t hop e i size h1 h2 h4 b 0 n cap hs q m c news hx hn hc h1c hroom (fun j hj => ?_) ?_
  · rw [Nat.zero_add]
    refine ⟨?_, hB.frozen _⟩
    have hlt : n * size + j < cur.length := by omega
    rw [hB.cell (by rw [List.getElem?_toArray]; exact List.getElem?_eq_getElem hlt)]
    rfl
  · rw [Nat.zero_add]
    exact hK _ (blk_setCells news cur _ w hB hfit) (keeps_setCells b news _ w)

/-- A block less, at place i. -/
def AS.del (x : AS) (i : Nat) : AS := { x with l := x.l.take i ++ x.l.drop (i + 1) }

theorem del_facts (l : List Bk) (sp : List Value) (k len g : Nat) (w : World) (hL : l.length = len) (hkl : k < len) (HG : Blk w g (l.flatMap Bk.cells ++ sp).toArray 66) :
    Hid (((l.drop (k + 1)).flatMap Bk.cells).length = (len - (k + 1)) * 3) ∧
    Hid (∃ q, (some (⟨g, (k + 1) * 3, none⟩ : Addr)) = some q ∧ ∀ j u, ((l.drop (k + 1)).flatMap Bk.cells)[j]? = some u → w.cell? (q.add j) = some u) ∧
    Hid (∀ v ∈ (l.drop (k + 1)).flatMap Bk.cells, v.oneCell' = true) ∧
    Hid (k * 3 + ((l.drop (k + 1)).flatMap Bk.cells).length ≤ (l.flatMap Bk.cells ++ sp).length) ∧
    Hid (∃ sp', splice (l.flatMap Bk.cells ++ sp) (k * 3) ((l.drop (k + 1)).flatMap Bk.cells) = (l.take k ++ l.drop (k + 1)).flatMap Bk.cells ++ sp' ∧ sp'.length = 3 + sp.length) ∧
    Hid (len = k + 1 → ∃ q, (some (⟨g, 0, none⟩ : Addr)) = some q ∧ ∀ j u, ((l.drop (k + 1)).flatMap Bk.cells)[j]? = some u → w.cell? (q.add j) = some u) := by
  have hcs : ((l.drop (k + 1)).flatMap Bk.cells).length = (len - (k + 1)) * 3 := by rw [flat_length Bk.cells_length, List.length_drop, hL]
  refine ⟨hid hcs, hid ⟨_, rfl, fun j v hj => ?_⟩, hid ?_, hid ?_, hid ?_, hid ?_⟩
  · rw [Go.WideShapes.add_plain]
    refine HG.cell ?_
    have e : (l.drop (k + 1)).flatMap Bk.cells = (l.flatMap Bk.cells).drop ((k + 1) * 3) := (flat_drop Bk.cells_length l (k + 1)).symm
    rw [e, List.getElem?_drop] at hj
    rw [List.getElem?_toArray, List.getElem?_append_left (List.getElem?_eq_some_iff.1 hj).1]
    exact hj
  · intro v hv
    obtain ⟨y, _, hy⟩ := List.mem_flatMap.1 hv
    simp [Bk.cells] at hy
    rcases hy with rfl | rfl | rfl <;> rfl
  · rw [hcs, List.length_append, flat_length Bk.cells_length, hL]
    omega
  · have e := flat_splice Bk.cells_length l (l.drop (k + 1)) sp k (by simp; omega)
    have e2 : k + (l.drop (k + 1)).length = l.length - 1 := by simp; omega
    have e3 : l.drop (l.length - 1) = [l[l.length - 1]'(by omega)] := by
      rw [List.drop_eq_getElem_cons (by omega)]
      congr 1
      apply List.drop_eq_nil_of_le
      omega
    rw [e2, e3] at e
    refine ⟨(l[l.length - 1]'(by omega)).cells ++ sp, ?_, by simp [Bk.cells_length]⟩
    rw [e, ← List.append_assoc, List.flatMap_append]
    simp [List.flatMap_append]
  · intro hk
    have e0 : l.drop (k + 1) = [] := List.drop_eq_nil_of_le (by omega)
    rw [e0]
    exact ⟨_, rfl, fun j u hj => by simp at hj⟩

theorem wrap_small' (k : Nat) (h : k ≤ 1000000) : IntKind.i64.wrap ((k : Int) + 1) = (k : Int) + 1 := wrap_small k h

/-- The slice behind Put. -/
theorem put_final {w w5 w6 : World} {base ab b g len cap k : Nat} {x : AS} {sp CUR CS : List Value} (hL : x.l.length = len) (hk : k < len) (hbg : base ≤ g) (hab : ab < base) (hc1 : len ≤ cap) (hc2 : cap ≤ maxLen) (hc3 : (x.l.flatMap Bk.cells).length + sp.length = cap * 3)
    (HB : Blk w ab #[.pointer (some ⟨b, 0, none⟩), .int .i64 x.fr, .int .i64 x.til, .slice (some ⟨g, 0, none⟩) len cap] 108)
    (HG : Blk w5 g (splice CUR (k * 3) CS).toArray 66) (HK5 : Keeps [g] w w5) (n' : Nat) (hn' : n' = len - 1)
    (hsp : ∃ sp', splice CUR (k * 3) CS = (x.l.take k ++ x.l.drop (k + 1)).flatMap Bk.cells ++ sp' ∧ sp'.length = 3 + sp.length) (h6 : w6 = w5.setCell ⟨ab, 3, none⟩ (.slice (some ⟨g, 0, none⟩) n' cap)) :
    AllocAt w6 base ab b (.slice (some ⟨g, 0, none⟩) n' cap) (x.del k) ∧ Keeps [ab, g] w w6 := by
  subst h6
  have hne : ab ≠ g := by omega
  obtain ⟨sp', e1, e2⟩ := hsp
  have hlen : (x.l.take k ++ x.l.drop (k + 1)).length = n' := by simp; omega
  rw [e1] at HG
  refine ⟨⟨hab, (HB.keeps HK5 (by simpa using hne)).set 3 _, ?_⟩, (HK5.mono (by simp)).set (by simp) _⟩
  have h := HG.other (a := ⟨ab, 3, none⟩) (by simpa using hne) (.slice (some ⟨g, 0, none⟩) n' cap)
  have := owns_of_slots (sz := 3) hbg h (n := n') (by rw [flat_length Bk.cells_length, hlen]) (by omega) hc2 (by rw [e2, flat_length Bk.cells_length, hlen]; rw [flat_length Bk.cells_length, hL] at hc3; omega)
  show World.ownsRow _ _ _ _ _ (x.l.take k ++ x.l.drop (k + 1)).length _
  rw [hlen]
  exact this

section
variable (base ab : Nat) (lv : Value) (x : AS) (p : Int) (w : World)

/-- What Put answers where the block at place i begins at p. -/
def PutPost (w : World) (base ab b cb wb : Nat) (lv : Value) (x : AS) (s' : MS) (i : Nat) (p : Int) (d : Option (List (ByteArray × Int) × Int)) (e : Ending) (w' : World) : Prop :=
  ∃ u, e = .returned u ∧ (∃ lv', AllocAt w' base ab b lv' (x.del i) ∧ lv'.ownBlock = lv.ownBlock) ∧ MemAt w' b cb wb s' ∧ Keeps ([ab, b, cb, wb] ++ lv.ownBlock.toList) w w' ∧
    match d with
    | none => u = .nilIface
    | some (l, k) => ∀ (S : List Nat) (w'' : World), Keeps S w' w'' → (∀ y, y ∈ S → y < w.heap.size) → ErrAt w'' u ((allocS, p) :: l) k

set_option maxRecDepth 100000 in
set_option maxHeartbeats 4000000 in
theorem put_none (mb : Nat) (hA : AllocAt w base ab mb lv x) (hx : x.ok) (hno : ∀ (i : Nat) (r : Bk), x.l[i]? = some r → r.pos ≠ p) : Calls Tryd.prog 33 #[.pointer (some ⟨ab, 0, none⟩), .int .i64 p] w fun e w' =>
    ∃ q, e = .returned (.iface 93 (.pointer (some ⟨q, 0, none⟩))) ∧ w.heap.size ≤ q ∧ Blk w' q #[.string allocS, .int .i64 p, .iface 30 (.int .i64 4)] 97 ∧ Keeps [] w w' := by
  have c3 := hA.2.1.cell (i := 3) rfl
  obtain ⟨a, cap, rfl, _⟩ := rows_at hA.2.2
  have HA := hid hA
  have HN := hid hno
  have hlen := hx.few
  clear hA hx hno
  generalize hL : x.l.length = len at *
  have HL := hid hL
  clear hL
  go_enter Tryd.func33, Tryd.ntmps33
  go_wp2_with fail
  go_loopw [13] (fun i wr => ∃ k : Nat, k ≤ len ∧ i = .int .i64 k ∧ Keeps [] w wr) (fun i _ => (len - (intOf i).toNat))
  case atStart => exact ⟨0, by omega, rfl, Keeps.refl _ _⟩
  case round =>
    obtain ⟨k, hk, rfl, hKR⟩ := hrel
    by_cases hlt : k < len
    · obtain ⟨r, hr⟩ : ∃ r, x.l[k]? = some r := ⟨_, List.getElem?_eq_getElem (by rw [HL.out]; omega)⟩
      have hAR := HA.out.keeps hKR (by simp) (by simp)
      have hrows : World.ownsRow wr base 66 3 (.slice a x.l.length cap) x.l.length (x.l.flatMap Bk.cells) := by
        have := hAR.2.2
        rw [HL.out]
        rw [HL.out] at this
        exact this
      obtain ⟨a2, cap2, hv, hrows⟩ := rows_at hrows
      cases hv
      obtain ⟨g, rfl, hcell⟩ := hrows (by rw [HL.out]; omega)
      obtain ⟨e0, e1, e2⟩ := hcell k r hr
      have hne := HN.out k r hr
      have hpp : (r.pos != p) = true := by simpa using hne
      clear hcell hrows hAR hr hne
      generalize r.pos = rp at *
      generalize r.n = rn at *
      generalize r.wd = rw_ at *
      go_wp2_with fail
      go_roundw
      case rel => exact ⟨k + 1, by omega, by go_num, hKR.alloc _⟩
      case measure => simp [intOf]; omega
    · obtain rfl : k = len := by omega
      go_wp2_with fail
      refine (afail_any _ _ _ _).mono ?_
      rintro e w1 ⟨rfl, rfl⟩
      go_wp2_with fail
      go_ret
      exact ⟨_, rfl, hKR.size, Blk.fresh _ _ _, hKR.alloc _⟩
end
end Go.Proofs.YtmciclhifcjoiaaDoor
