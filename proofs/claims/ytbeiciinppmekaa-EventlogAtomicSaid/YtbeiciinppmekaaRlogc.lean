/-
  baseboardref09's Log: open, Reserve, Clear, Get, Open do what the models say; each contract's conditions are its premises.
-/
import Derived.Test.YtbeiciinppmekaaTb
import Derived.Test.YtbeiciinppmekaaRlogb
import Derived.Test.YtbeiciinppmekaaLogg
import Derived.Test.YtbeiciinppmekaaProg
namespace Go.Proofs.Ytbeiciinppmekaa
open Go Go.Sx Go.Proofs
set_option maxRecDepth 100000
set_option linter.unusedSimpArgs false
set_option linter.unusedVariables false
/-- The device behind open, and its error. -/
def Rl.openT (R : Rl) (D : Dev) (tail : Int) : Dev × Int :=
  if 2147483648 < (R.newest D).1 + 1 then (D, 3) else
  openP D (R.first + (R.newest D).1 % R.S) ((R.newest D).1 + 1) (if tail = 0 then (R.newest D).1 + 1 else tail) (R.nextID D)
def Rl.endR (R : Rl) : Rl := { R with ended := true, refused := false }
def Rl.clear (R : Rl) (D : Dev) (r : Int) : Rl × Dev × Int :=
  if R.ended || D.down then (R.endR, D, 10) else
  if R.held = false ∨ ¬ r = R.last then (R, D, 11) else
  if 0 < (R.records D).length then
    if (R.openT D 0).2 = 10 then (R.endR, (R.openT D 0).1, 10) else
    if (R.openT D 0).2 = 0 then ({ R with held := false, refused := false }, (R.openT D 0).1, 0) else (R, (R.openT D 0).1, (R.openT D 0).2)
  else ({ R with held := false, refused := false }, D, 0)
theorem Rl.openT_fine {R : Rl} {D : Dev} (h : D.Fine) (t : Int) : (R.openT D t).1.Fine ∧ (R.openT D t).1.Like D := by
  unfold Rl.openT
  split
  · exact ⟨h, Dev.Like.refl D⟩
  · exact openP_fine h _ _ _ _
theorem Rl.Fine.like {R : Rl} {D E : Dev} (h : R.Fine D) (l : E.Like D) : R.Fine E := ⟨h.f0, h.S2, by rw [l.2.1]; exact h.fS, by rw [l.2.2]; exact h.sz, h.l0, h.l1⟩
def Rl.open0 (first S : Int) (over : Bool) : Rl := ⟨first, S, over, false, 0, false, false⟩
/-- Is there no room for a log of S sectors from first on? -/
def noRoom (nw : Nat) (first S : Int) : Bool := decide (S < 2 ∨ nw < S ∨ first < 0 ∨ nw - S < first)
end Go.Proofs.Ytbeiciinppmekaa
