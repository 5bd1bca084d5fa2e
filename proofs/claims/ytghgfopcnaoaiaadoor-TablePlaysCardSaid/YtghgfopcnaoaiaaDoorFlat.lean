/-
  Rows of structs in one block: every struct the same number of cells.
-/
import Derived.Test.YtghgfopcnaoaiaaDoorBase
namespace Go.Proofs.YtghgfopcnaoaiaaDoor
open Go.RowKit

section
variable {α : Type} {f : α → List Value} {n : Nat}

theorem flat_get (hf : ∀ a, (f a).length = n) (l : List α) : ∀ (i j : Nat), j < n → (l.flatMap f)[i * n + j]? = (l[i]?).bind fun a => (f a)[j]? := by
  induction l with
  | nil => intro i j _; simp
  | cons a l ih =>
    intro i j hj
    rw [List.flatMap_cons]
    cases i with
    | zero =>
      rw [Nat.zero_mul, Nat.zero_add, List.getElem?_append_left (by rw [hf]; exact hj)]
      rfl
    | succ i =>
      have e : (i + 1) * n + j = (f a).length + (i * n + j) := by rw [hf, Nat.succ_mul]; omega
      rw [e, List.getElem?_append_right (by omega), Nat.add_sub_cancel_left, ih i j hj]
      rfl

theorem flat_length (hf : ∀ a, (f a).length = n) (l : List α) : (l.flatMap f).length = l.length * n := by
  induction l with
  | nil => simp
  | cons a l ih => rw [List.flatMap_cons, List.length_append, hf, ih, List.length_cons, Nat.succ_mul]; omega

theorem flat_set (hf : ∀ a, (f a).length = n) (l : List α) : ∀ (i j : Nat) (a a' : α) (v : Value), j < n → l[i]? = some a → f a' = (f a).set j v →
    (l.flatMap f).set (i * n + j) v = (l.set i a').flatMap f := by
  induction l with
  | nil => intro i j a a' v _ h; simp at h
  | cons b l ih =>
    intro i j a a' v hj h hv
    rw [List.flatMap_cons]
    cases i with
    | zero =>
      have hb : b = a := by simpa using h
      subst hb
      rw [Nat.zero_mul, Nat.zero_add, List.set_append_left _ _ (by rw [hf]; exact hj), ← hv]
      rfl
    | succ i =>
      have e : (i + 1) * n + j = (f b).length + (i * n + j) := by rw [hf, Nat.succ_mul]; omega
      have e2 : (f b).length + (i * n + j) - (f b).length = i * n + j := by omega
      have h' : l[i]? = some a := by simpa using h
      rw [e, List.set_append_right _ _ (by omega), e2, ih i j a a' v hj h' hv]
      rfl
end

/-- A block of structs. -/
def flatA {α : Type} (f : α → List Value) (l : List α) : Array Value := (l.flatMap f).toArray

theorem flatA_get {α : Type} {f : α → List Value} {n : Nat} (hf : ∀ a, (f a).length = n) {l : List α} {i j : Nat} {a : α} {v : Value} (hj : j < n) (ha : l[i]? = some a) (hv : (f a)[j]? = some v) : (flatA f l)[i * n + j]? = some v := by
  have h := flat_get hf l i j hj
  rw [ha] at h
  simp only [flatA, List.getElem?_toArray, h]
  exact hv

theorem flatA_set {α : Type} {f : α → List Value} {n : Nat} (hf : ∀ a, (f a).length = n) {l : List α} {i j : Nat} {a a' : α} {v : Value} (hj : j < n) (ha : l[i]? = some a) (hv : f a' = (f a).set j v) :
    (flatA f l).setIfInBounds (i * n + j) v = flatA f (l.set i a') := by
  simp only [flatA, List.setIfInBounds_toArray, flat_set hf l i j a a' v hj ha hv]

end Go.Proofs.YtghgfopcnaoaiaaDoor
