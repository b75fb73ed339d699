/-
  Ways that meet: what lies behind is walked once. Lemmas only; no condition.
-/
import Derived.Test.YtbeiciinppmekaaSx13
set_option linter.unusedSimpArgs false
set_option linter.unusedVariables false
namespace Go.Sx
open Go
section
variable {X : Cx} {Q : Xt} {l : Tl} {L : Bl}
/-- The ways through x meet at the states s of Φ. -/
theorem GC.join {x y : Code} {S : Type} (Φ : S → Prop) (li : S → Tl) (Li : S → Bl) (hx : (∀ s, Φ s → GK X (Exit.then (y.wp X.P Q) Q .normal) (li s) (Li s)) → GC X x (Exit.then (y.wp X.P Q) Q) l L) (hy : ∀ s, Φ s → GC X y Q (li s) (Li s)) : GC X (.seq x y) Q l L :=
  GC.seq (hx fun s hs => GK.then (hy s hs))
theorem GH.join {ops : Array Oper} {Lh : Bl} {f m : Nat} {S : Type} (Φ : S → Prop) (li : S → Tl) (Li : S → Bl) (hx : (∀ s, Φ s → GK X (Q .normal) (li s) (Li s)) → GH X ops Q Lh f m l L) (hy : ∀ s, Φ s → GK X (Q .normal) (li s) (Li s)) : GH X ops Q Lh f m l L := hx hy
/-- Here they meet. -/
theorem GK.meet {K : Kt} {S : Type} {Φ : S → Prop} {li : S → Tl} {Li : S → Bl} (c : ∀ s, Φ s → GK X K (li s) (Li s)) (s : S) (hs : Φ s) (hw : Wk l (li s)) (hh : Held L (Li s)) : GK X K l L := fun a w he hw' => c s hs a w (he.wk hw) (hw'.held hh)
end
end Go.Sx
