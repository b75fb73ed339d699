/-
  The functions of baseboardref05 do what the model Dev of flash says; each contract's conditions are its premises.
-/
import Derived.Test.YtbeiciinppmekaaTb
import Derived.Test.YtbeiciinppmekaaLib
import Derived.Test.YtbeiciinppmekaaFlash
import Derived.Test.YtbeiciinppmekaaProg
namespace Go.Proofs.Ytbeiciinppmekaa
open Go Go.Sx Go.Proofs
set_option maxRecDepth 100000
set_option linter.unusedSimpArgs false
set_option linter.unusedVariables false
/-- Numbers that are bytes. -/
def Bytes (xs : List Int) : Prop := ∀ x ∈ xs, 0 ≤ x ∧ x ≤ 255
theorem Bytes.ix {xs : List Int} (h : Bytes xs) (i : Nat) : 0 ≤ ix xs i ∧ Sx.ix xs i ≤ 255 := by
  unfold Sx.ix
  rw [List.getD_eq_getElem?_getD]
  cases hi : xs[i]? with
  | none => simp
  | some x => simpa using h x (List.mem_of_getElem? hi)
theorem Bytes.set {xs : List Int} (h : Bytes xs) (i : Nat) {v : Int} (hv : 0 ≤ v ∧ v ≤ 255) : Bytes (xs.set i v) := by
  intro x hx
  rcases List.mem_or_eq_of_mem_set hx with hx | rfl
  · exact h x hx
  · exact hv
theorem bor_ff : ∀ x : Fin 256, bor .u8 (x.val : Int) 255 = 255 := by decide
theorem bor_u8_ff {x : Int} (h0 : 0 ≤ x) (h1 : x ≤ 255) : bor .u8 x 255 = 255 := by
  have := bor_ff ⟨x.toNat, by omega⟩
  simpa [Int.toNat_of_nonneg h0] using this
/-- What holds between the calls, when the device is up or down. -/
structure Dev.Ok2 (D : Dev) : Prop where
  left0 : 0 ≤ D.left
  bytes : Bytes D.bytes
theorem Dev.step_ok2 {D : Dev} (h : D.Ok2) : D.step.Ok2 := by
  unfold Dev.step
  split
  · exact ⟨by simp only; omega, h.bytes⟩
  · exact ⟨h.left0, h.bytes⟩
theorem Dev.put_ok2 {D : Dev} (h : D.Ok2) (p : Nat) {v : Int} (hv : 0 ≤ v ∧ v ≤ 255) : (D.put p v).Ok2 := ⟨h.left0, h.bytes.set p hv⟩
theorem Dev.step_torn (D : Dev) : D.step.torn = D.torn := by unfold Dev.step; split <;> rfl
theorem all_ff_yes {xs : List Int} (h : ∀ k, k < xs.length → ix xs k = 255) : (xs.all fun x => decide (x = 255)) = true := by
  rw [List.all_eq_true]
  intro x hx
  obtain ⟨j, hj, rfl⟩ := List.mem_iff_getElem.1 hx
  have := h j hj
  simp [ix, hj] at this
  simp [this]
end Go.Proofs.Ytbeiciinppmekaa
