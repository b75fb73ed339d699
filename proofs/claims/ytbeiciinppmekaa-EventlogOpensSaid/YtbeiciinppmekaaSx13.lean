/-
  Fields at any address, the rest of a view. Lemmas only; no condition.
-/
import Derived.Test.YtbeiciinppmekaaSx12
set_option linter.unusedSimpArgs false
set_option linter.unusedVariables false
namespace Go.Sx
open Go
section
variable {X : Cx} {l : Tl} {L : Bl} {Q : Xt}
end
end Go.Sx
