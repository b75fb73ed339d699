/-
  append of a row that may be nil. Lemmas only; no condition.
-/
import Derived.Test.YtbeiciinppmekaaSx11
set_option linter.unusedSimpArgs false
set_option linter.unusedVariables false
namespace Go.Sx
open Go
section
variable {X : Cx} {l : Tl} {L R : Bl} {Q : Xt}
/-- append of a row of structs, or of nil, onto a row of structs. -/
theorem Ld.appO {α : Type} {T E U sz by_ d c c2 : Nat} {x y : Operand} {ps : String} {af : Array Edge} {g : Option (Nat × Bool)} {z : Value} {zs : List Value} {ob ob2 : Option Nat} {f : α → List Value} {xs ys : List α} {sp : List Value} {C : Tl → Bl → Prop} (hT : X.P.underlying T = some (.slice E)) (hsz : szB X.P E = some sz) (hby : byB X.P E = some by_) (hz : zeB X.P E = some z) (hcl : Cl z zs) (hzl : zs.length = sz) (hN : Nat.blt d X.N = true)
    (hf : ∀ x, (f x).length = sz) (hf1 : ∀ x, ∀ v ∈ f x, v.oneCell' = true)
    (hx : opv l x = some (.slice (oA ob) xs.length c)) (hy : opv l y = some (.slice (oA ob2) ys.length c2)) [hb : TkC ob L (.cells (xs.flatMap f ++ sp) E) R] (hv : ∀ b, ob2 = some b → Vw X.F L ⟨b, 0, none⟩ (ys.flatMap f)) (h2 : ob2 = none → ys = [] ∧ c2 = 0) (h3 : ∀ b, ob2 = some b → 0 < ys.length)
    (hc : xs.length * sz + sp.length = c * sz) (hnil : ob = none → xs = [] ∧ sp = []) (hfit : (xs.length + ys.length) * by_ ≤ 140737488355328) (hsz0 : 0 < sz) (hlen : xs.length + ys.length ≤ 9223372036854775807)
    (h : ∀ ob' c' sp', (xs ++ ys).length * sz + sp'.length = c' * sz → (ob' = none → xs ++ ys = [] ∧ sp' = []) → (ob' = none ∨ ob = none → ob' = none → ys = []) → C ((d, .slice (oA ob') (xs ++ ys).length c') :: l) ((ob', .cells ((xs ++ ys).flatMap f ++ sp') E) :: R)) : Ld X Q ⟨some d, .call ⟨.builtin .append, #[x, y], #[T, T]⟩, U, ps, af, g⟩ l L C := by
  cases ob2 with
  | some b => exact Ld.appS hT hsz hby hz hcl hzl hN hf hf1 hx hy (hv b rfl) hc (fun e => ⟨(hnil e).1, (hnil e).2, h3 b rfl⟩) hfit hsz0 hlen (fun b' c' sp' hn => h (some b') c' sp' hn (fun e => by cases e) (fun _ e => by cases e))
  | none =>
    obtain ⟨rfl, rfl⟩ := h2 rfl
    have hcc : xs.length ≤ c := by
      have : xs.length * sz ≤ c * sz := by omega
      exact Nat.le_of_mul_le_mul_right this hsz0
    have h' := h ob c sp (by simpa using hc) (fun e => by simpa using hnil e) (fun _ _ => rfl)
    simp only [List.append_nil] at h'
    intro a w he hs K hK
    exact Qt.ld (Qt.app0 hT hsz hx hy hcc) hN h' a w he (hs.perm hb.t.perm) K hK
end
end Go.Sx
