/-
  baseboardref09's Log: Add does what the model says; its conditions are its premises.
-/
import Derived.Test.YtbeiciinppmekaaTb
import Derived.Test.YtbeiciinppmekaaPlb
import Derived.Test.YtbeiciinppmekaaProg
namespace Go.Proofs.Ytbeiciinppmekaa
open Go Go.Sx Go.Proofs
set_option maxRecDepth 100000
set_option linter.unusedSimpArgs false
set_option linter.unusedVariables false
def Rl.slotAt (R : Rl) (D : Dev) (i : Int) : Int := R.base D (((R.newest D).1 - 1) % R.S) + 11 + 17 * i
def Rl.put (R : Rl) (D : Dev) (e1 : Ev) (i : Int) : Rl × Dev × Int × Int :=
  if (D.program (R.slotAt D i) (evEnc e1 ++ [0])).2 = 0 then (R, (D.program (R.slotAt D i) (evEnc e1 ++ [0])).1, e1.id, 0) else (R.endR, (D.program (R.slotAt D i) (evEnc e1 ++ [0])).1, 0, 10)
def Rl.tl0 (R : Rl) (D : Dev) : Int := max (R.newest D).2 1
def Rl.tl (R : Rl) (D : Dev) : Int := if R.S - 2 < (R.newest D).1 + 1 - R.tl0 D then R.tl0 D + 1 else R.tl0 D
def Rl.add (R : Rl) (D : Dev) (e : Ev) : Rl × Dev × Int × Int :=
  if R.ended || D.down then (R.endR, D, 0, 10) else
  if e.valid = false ∨ ¬ e.id = 0 then (R, D, 0, 1) else
  if R.place D < 0 then
    if R.S - 2 < (R.newest D).1 + 1 - R.tl0 D ∧ R.over = false then ({ R with refused := true }, D, 0, 9) else
    if (R.openT D (R.tl D)).2 = 10 then (R.endR, (R.openT D (R.tl D)).1, 0, 10) else
    if (R.openT D (R.tl D)).2 = 0 then R.put (R.openT D (R.tl D)).1 { e with id := R.nextID D } 0 else (R, (R.openT D (R.tl D)).1, 0, (R.openT D (R.tl D)).2)
  else R.put D { e with id := R.nextID D } (R.place D)
theorem Rl.tl_bd {R : Rl} {D : Dev} (g : R.Fine D) : 1 ≤ R.tl D ∧ R.tl D ≤ (R.newest D).1 + 1 ∧ (R.newest D).1 + 1 - R.tl D ≤ R.S - 2 := by
  have h := R.newest_bd D
  have hS := g.S2
  unfold Rl.tl Rl.tl0
  split <;> omega
theorem Rl.place_bd (R : Rl) {D : Dev} (h : D.Fine) : R.place D = -1 ∨ (0 ≤ R.place D ∧ R.place D < slotsN D.size.toNat ∧ ¬ (R.newest D).1 = 0 ∧ R.place D = R.usedN D) := by
  have := freeN_le (secL D (R.base D (((R.newest D).1 - 1) % R.S))) (slotsN D.size.toNat)
  unfold Rl.place
  split
  · exact .inl rfl
  · split
    · exact .inl rfl
    · rename_i h1 h2
      unfold Rl.usedN at *
      right
      refine ⟨by omega, by omega, h1, rfl⟩
end Go.Proofs.Ytbeiciinppmekaa
