/-
  distaffkeep.Same, where an error is what the document says: true.
-/
import Derived.Test.YtghgfopcnaoaiaaDoorDoc
import Derived.Deep.RegionWith
import Derived.Deep.RegionHeld3
import Derived.Deep.QuietTactic
import Derived.BigQuiet
namespace Go.Proofs.YtghgfopcnaoaiaaDoor
open Go.RowKit Go.Extern.Stop Go.Stop Go.Extern

theorem quiet_s {P : Program} {f : FuncId} {args : Array Value} {w : World} {n : Nat} {v : Value}
    (h : Calls P f args (w.drewN n) fun e w' => e = .returned v ∧ w.drewN n = w') : Calls P f args (w.drewN n) fun e w'' => e = .returned v ∧ ∃ m, w'' = w.drewN m :=
  h.mono fun _ _ ⟨he, hm⟩ => ⟨he, n, hm.symm⟩

/-- Behind a call that every other operation of a region waits for: what is left only reads: one walk, in the order of the text. -/
theorem wpAny_rest_still {P : Program} {md : Region.Mode} {l : List Oper} {Q : Exit → Act → World → Prop} {fuel : Nat} {listed : Array Bool} {a : Act} {w : World} (m : Nat) (hs : Region.noSelect l.toArray = true)
    (hf : (l.drop m).length = fuel) (hlex : Region.lexFrom md l.toArray fuel m listed = true) (h : wpStill P l.toArray w (fun a' => Q .normal a' w) (l.drop m) a) : wpAny P md l.toArray Q fuel listed a w := by
  subst hf
  exact wpAny_of_still (Q := fun a' => Q .normal a' w) (fun _ h => h) _ _ _ (wpAnyS_lex hs (l.drop m) m listed a (fun j => by simp) hlex h)

theorem ErrAt.iface {w : World} {v : Value} {l : List (ByteArray × Int)} {k : Int} (h : ErrAt w v l k) : ∃ T x, v = .iface T x := by
  cases l with
  | nil => exact ⟨_, _, h⟩
  | cons y l => obtain ⟨b, u, hv, _⟩ := h; exact ⟨_, _, hv⟩

theorem same_nil (w : World) : Calls Tryd.prog 10 #[.nilIface, .pointer none] w fun e w' => e = .returned (.bool true) ∧ w = w' := by
  go_enter Tryd.func10, Tryd.ntmps10
  go_wp2
  go_ret
  exact ⟨rfl, rfl⟩

set_option maxRecDepth 100000 in
set_option maxHeartbeats 4000000 in
theorem same_some (v : Value) (f : Value) (l : List (ByteArray × Int)) (k : Int) (w : World) (hg : GV w) (hE : ErrAt w v l k) (hF : FailAt w f l k) (hl : l.length ≤ 1000) (h1 : 1 ≤ k) (h2 : k ≤ 10) :
    Calls Tryd.prog 10 #[v, f] w fun e w' => e = .returned (.bool true) ∧ Keeps [] w w' := by
  obtain ⟨b, lb, nb, ca, cb, sc, nc, rfl, hb, hlb, hnb, hall⟩ := hF
  have c0 := hb.cell (i := 0) rfl
  have c1 := hb.cell (i := 1) rfl
  have c2 := hb.cell (i := 2) rfl
  have HA := hid hall
  have HE := hid hE
  obtain ⟨T, x, rfl⟩ : ∃ T x, v = .iface T x := by
    cases l with
    | nil => exact ⟨_, _, hE⟩
    | cons y l => obtain ⟨b, u, hv, _⟩ := hE; exact ⟨_, _, hv⟩
  clear hall hE
  have hkk : (k != k) = false := by simp
  go_enter Tryd.func10, Tryd.ntmps10
  go_wp2_with fail
  go_quiet ((go_at_call 32; exact quiet_s (kind_any l _ k _ (ErrAt.keeps ((Keeps.refl [] _).drewN _) HE.out) h1 h2)))
  go_wp2_with fail
  generalize hw0 : w.drewN nq = w0
  have hK0 : Keeps [] w w0 := hw0 ▸ (Keeps.refl [] _).drewN _
  clear hw0
  go_loopw [0, 5] (fun v i wr => ∃ j : Nat, j ≤ l.length ∧ i = .int .i64 j ∧ ErrAt wr v (l.drop j) k ∧ Keeps [] w wr) (fun _ i _ => (l.length - (intOf i).toNat))
  case atStart => exact ⟨0, by omega, rfl, ErrAt.keeps hK0 HE.out, hK0⟩
  case round =>
    obtain ⟨j, hj, rfl, hER, hKR⟩ := hrel
    have hbR := hb.keeps hKR (by simp)
    have c0 := hbR.cell (i := 0) rfl
    have c1 := hbR.cell (i := 1) rfl
    by_cases hlt : j < l.length
    · obtain ⟨⟨L, n⟩, hx⟩ : ∃ x, l[j]? = some x := ⟨_, List.getElem?_eq_getElem hlt⟩
      obtain ⟨hs, hn⟩ := HA.out j _ hx
      have hd : l.drop j = (L, n) :: l.drop (j + 1) := by
        rw [List.drop_eq_getElem_cons hlt]
        rw [List.getElem?_eq_getElem hlt] at hx
        rw [Option.some.inj hx]
      rw [hd] at hER
      obtain ⟨eb, u, rfl, heb, hu⟩ := hER
      obtain ⟨T2, x2, rfl⟩ := ErrAt.iface hu
      have HU := hid hu
      have HS := hid hs
      have HN := hid hn
      have hln : j < l.length := hlt
      have hmm : (n != n) = false := by simp
      clear hx hd hu hs hn
      go_wp2_with fail
      have t1 := (Blk.fresh wr #[.pointer none] 72).drew
      refine wp_region_any (by kernel_rfl) ?_
      change wpAny _ _ _ _ _ _ _ (World.drew _)
      refine wpAny_take (i := 0) (v := ?_) rfl (by kernel_rfl) (by kernel_rfl) (by kernel_rfl) (fun _ _ _ h => h) (Or.inl ⟨by rfl, ?hy0⟩) ?_
      case hy0 => intro w; go_simp; with_reducible rfl
      refine wpAny_take (i := 1) (v := ?_) rfl (by kernel_rfl) (by kernel_rfl) (by kernel_rfl) (fun _ _ _ h => h) (Or.inl ⟨by rfl, ?hy1⟩) ?_
      case hy1 => intro w; go_simp; with_reducible rfl
      refine wpAny_ready (rs := [2]) (by kernel_rfl) (by simp) ?_
      refine AllReady.cons rfl (fun K hK => ?_) AllReady.nil
      go_simp
      go_wp2_with fail
      refine (as_hit eb wr.heap.size (.pointer none) _ ?_ t1).mono ?_
      · exact (hg.keeps hKR (by simp)).keeps (((Keeps.refl [] _).alloc _).drew) (by simp)
      rintro e w3 ⟨rfl, hB, hK3⟩
      have hKK : Keeps [] wr w3 := (((Keeps.refl [] _).alloc _).drew).drop hK3 (by simp)
      have t0 := hB.cell (i := 0) rfl
      have b0 := (hbR.keeps hKK (by simp)).cell (i := 0) rfl
      have b1 := (hbR.keeps hKK (by simp)).cell (i := 1) rfl
      have e0 := (heb.keeps hKK (by simp)).cell (i := 0) rfl
      have e1 := (heb.keeps hKK (by simp)).cell (i := 1) rfl
      have e2 := (heb.keeps hKK (by simp)).cell (i := 2) rfl
      have l0 := ((hlb.keeps hKR (by simp)).keeps hKK (by simp)).cell HS.out
      have n0 := ((hnb.keeps hKR (by simp)).keeps hKK (by simp)).cell HN.out
      refine hK _ _ ?_
      clear hK K
      refine wpAny_rest_still 3 (by kernel_rfl) rfl (by kernel_rfl) ?_
      simp only [List.drop_succ_cons, List.drop_zero]
      repeat still_step
      refine wpStill_nil ?_
      go_wp2_with fail
      go_roundw
      case rel => exact ⟨j + 1, by omega, by go_num, ErrAt.keeps hKK HU.out, hKR.trans hKK⟩
      case measure => simp [intOf]; omega
    · obtain rfl : j = l.length := by omega
      rw [List.drop_length] at hER
      obtain rfl := hER
      go_wp2_with fail
      refine (as_miss wr.heap.size (.pointer none) k _ ?_ (Blk.fresh _ _ _)).mono ?_
      · exact (hg.keeps hKR (by simp)).keeps ((Keeps.refl [] _).alloc _) (by simp)
      rintro e w3 ⟨rfl, hK3⟩
      go_wp2_with fail
      go_ret
      exact ⟨rfl, (hKR.alloc _).trans hK3⟩

/-- An error is what the document says. -/
theorem same_any (v f : Value) (d : Option (List (ByteArray × Int) × Int)) (w : World) (hg : GV w) (hE : ErrV w v d) (hF : DocAt w f d) :
    Calls Tryd.prog 10 #[v, f] w fun e w' => e = .returned (.bool true) ∧ Keeps [] w w' := by
  cases d with
  | none =>
    obtain rfl := hE
    obtain rfl := hF
    exact (same_nil w).mono fun e w' ⟨he, hw⟩ => ⟨he, hw ▸ Keeps.refl _ _⟩
  | some x => exact same_some v f x.1 x.2 w hg hE hF.1 hF.2.1 hF.2.2.1 hF.2.2.2
end Go.Proofs.YtghgfopcnaoaiaaDoor
