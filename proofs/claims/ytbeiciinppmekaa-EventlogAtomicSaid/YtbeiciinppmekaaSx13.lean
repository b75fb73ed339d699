/-
  Fields at any address, the rest of a view. Lemmas only; no condition.
-/
import Derived.Test.YtbeiciinppmekaaSx12
set_option linter.unusedSimpArgs false
set_option linter.unusedVariables false
namespace Go.Sx
open Go
section
variable {X : Cx} {l : Tl} {L : Bl} {Q : Xt}
end
theorem drop_flatMap {α : Type} {f : α → List Value} {sz : Nat} (hf : ∀ x, (f x).length = sz) : ∀ (xs : List α) (k : Nat), (xs.flatMap f).drop (k * sz) = (xs.drop k).flatMap f
  | [], k => by simp
  | x :: xs, 0 => by simp
  | x :: xs, k + 1 => by
    rw [List.flatMap_cons, Nat.add_mul, Nat.one_mul, Nat.add_comm, List.drop_succ_cons, ← drop_flatMap hf xs k, ← hf x, ← List.drop_drop, List.drop_left]
theorem VwF.slDrop {α : Type} {F : Fr} {A : Option Addr} {f : α → List Value} {sz : Nat} {xs : List α} {c k : Nat} (h : VwF F A (xs.flatMap f)) (hf : ∀ x, (f x).length = sz) (hc : xs.length ≤ c) : VwF F (slAt A c k sz) ((xs.drop k).flatMap f) := by
  unfold slAt
  split
  · rename_i e
    rw [List.drop_of_length_le (by omega)]
    exact VwF.nil
  · cases A with
    | some a =>
      have := h.dropA (n := k * sz)
      rwa [drop_flatMap hf] at this
    | none =>
      intro j v hj
      obtain ⟨ad, e, _⟩ := h (k * sz + j) v (by rw [← List.getElem?_drop, drop_flatMap hf]; exact hj)
      cases e
end Go.Sx
