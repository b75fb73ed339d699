/-
  baseboardlaw09.same and sameDevice return true where two logs agree and two devices are alike; each contract's conditions are its premises.
-/
import Derived.Test.YtbeiciinppmekaaTb
import Derived.Test.YtbeiciinppmekaaLawa
import Derived.Test.YtbeiciinppmekaaProg
namespace Go.Proofs.Ytbeiciinppmekaa
open Go Go.Sx Go.Proofs
set_option maxRecDepth 100000
set_option linter.unusedSimpArgs false
set_option linter.unusedVariables false
theorem VwF.oA {F : Fr} {ob : Option Nat} {cs : List Value} (h : ∀ b, ob = some b → VwF F (some ⟨b, 0, none⟩) cs) (hn : ob = none → cs = []) : VwF F (Go.Sx.oA ob) cs := by
  cases ob with
  | none => rw [hn rfl]; exact Go.Sx.VwF.nil
  | some b => exact h b rfl
theorem recs_len_bd {Y : Lg} {R : Rl} {D : Dev} (a : Agree Y R D) (hS : R.S ≤ 255) : Y.recs.length ≤ 16777216 := by
  have hq := R.newest_bd D
  have e : Y.recs.length = (R.records D).length := by rw [← a.events]; simp [Lg.events]
  rw [e]
  unfold Rl.records
  rw [if_neg (by simp [a.re])]
  split
  · have h1 := R.recsN_len a.fine (R.newest D).2 ((R.newest D).1 + 1 - (R.newest D).2).toNat
    have h2 : ((R.newest D).1 + 1 - (R.newest D).2).toNat ≤ 255 := by omega
    have h3 : ((R.newest D).1 + 1 - (R.newest D).2).toNat * 65536 ≤ 255 * 65536 := Nat.mul_le_mul_right _ h2
    omega
  · simp
end Go.Proofs.Ytbeiciinppmekaa
