/-
  append of a row that may be nil. Lemmas only; no condition.
-/
import Derived.Test.YtbeiciinppmekaaSx11
set_option linter.unusedSimpArgs false
set_option linter.unusedVariables false
namespace Go.Sx
open Go
section
variable {X : Cx} {l : Tl} {L R : Bl} {Q : Xt}
end
end Go.Sx
