/-
  Fields at any address, the rest of a view. Lemmas only; no condition.
-/
import Derived.Test.YtbeiciinppmekaaSx12
set_option linter.unusedSimpArgs false
set_option linter.unusedVariables false
namespace Go.Sx
open Go
section
variable {X : Cx} {l : Tl} {L : Bl} {Q : Xt}
theorem Qt.faA {S i o n : Nat} {x : Operand} {A : Addr} (hf : fldB X.P S i = some (o, n + 1)) (hx : opv l x = some (.pointer (some A))) : Qt X l L (.fieldAddr S x i) (.pointer (some (A.add o))) := by
  intro d T ps af g a w he _
  simp only [execOp, he.eval hx, Instr.fieldAt]
  unfold fldB at hf
  cases hu : X.P.underlying S with
  | none => simp [hu] at hf
  | some D =>
    simp only [hu] at hf
    cases D <;> simp at hf
    rename_i fs
    cases hfi : fs[i]? with
    | none => simp [hfi] at hf
    | some f =>
      simp only [hfi, Option.map_eq_some_iff] at hf
      obtain ⟨m, hm, e⟩ := hf
      simp only [Prod.mk.injEq] at e
      obtain ⟨e1, e2⟩ := e
      simp only [Sem.run_bind, run_und hu, Result.andThen_ok, hfi, Instr.sureAddr, fieldPlace, run_sizeOf hm]
      simp [e2, e1]
end
theorem drop_flatMap {α : Type} {f : α → List Value} {sz : Nat} (hf : ∀ x, (f x).length = sz) : ∀ (xs : List α) (k : Nat), (xs.flatMap f).drop (k * sz) = (xs.drop k).flatMap f
  | [], k => by simp
  | x :: xs, 0 => by simp
  | x :: xs, k + 1 => by
    rw [List.flatMap_cons, Nat.add_mul, Nat.one_mul, Nat.add_comm, List.drop_succ_cons, ← drop_flatMap hf xs k, ← hf x, ← List.drop_drop, List.drop_left]
theorem VwF.slDrop {α : Type} {F : Fr} {A : Option Addr} {f : α → List Value} {sz : Nat} {xs : List α} {c k : Nat} (h : VwF F A (xs.flatMap f)) (hf : ∀ x, (f x).length = sz) (hc : xs.length ≤ c) : VwF F (slAt A c k sz) ((xs.drop k).flatMap f) := by
  unfold slAt
  split
  · rename_i e
    rw [List.drop_of_length_le (by omega)]
    exact VwF.nil
  · cases A with
    | some a =>
      have := h.dropA (n := k * sz)
      rwa [drop_flatMap hf] at this
    | none =>
      intro j v hj
      obtain ⟨ad, e, _⟩ := h (k * sz + j) v (by rw [← List.getElem?_drop, drop_flatMap hf]; exact hj)
      cases e
end Go.Sx
