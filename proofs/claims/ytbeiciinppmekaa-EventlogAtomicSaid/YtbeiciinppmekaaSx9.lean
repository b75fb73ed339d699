/-
  Rows of numbers and rows of structs that grow. Lemmas only; no condition.
-/
import Derived.Test.YtbeiciinppmekaaSx8
set_option linter.unusedSimpArgs false
set_option linter.unusedVariables false
namespace Go.Sx
open Go
section
variable {X : Cx} {l : Tl} {L R : Bl} {Q : Xt}
theorem vI_one {k : IntKind} {xs : List Int} : ∀ v ∈ vI k xs, v.oneCell' = true := by
  intro v hv
  simp only [vI, List.mem_map] at hv
  obtain ⟨n, _, rfl⟩ := hv
  rfl
theorem vI_append {k : IntKind} {xs ys : List Int} : vI k (xs ++ ys) = vI k xs ++ vI k ys := by simp [vI]
/-- append onto a row of numbers. -/
theorem Ld.appI {T E U by_ d c c2 : Nat} {x y : Operand} {ps : String} {af : Array Edge} {g : Option (Nat × Bool)} {z : Value} {ob : Option Nat} {a : Addr} {k : IntKind} {xs ys : List Int} {sp : List Value} {C : Tl → Bl → Prop} (hT : X.P.underlying T = some (.slice E)) (hsz : szB X.P E = some 1) (hby : byB X.P E = some by_) (hz : zeB X.P E = some z) (hz1 : z.oneCell' = true) (hN : Nat.blt d X.N = true)
    (hx : opv l x = some (.slice (oA ob) xs.length c)) (hy : opv l y = some (.slice (some a) ys.length c2)) [hb : TkC ob L (.cells (vI k xs ++ sp) E) R] (hv : Vw X.F L a (vI k ys))
    (hc : xs.length + sp.length = c) (hnil : ob = none → xs = [] ∧ sp = [] ∧ 0 < ys.length) (hfit : (xs.length + ys.length) * by_ ≤ 140737488355328) (hlen : xs.length + ys.length ≤ 9223372036854775807)
    (h : ∀ b' sp', C ((d, .slice (some ⟨b', 0, none⟩) (xs ++ ys).length ((xs ++ ys).length + sp'.length)) :: l) ((some b', .cells (vI k (xs ++ ys) ++ sp') E) :: R)) : Ld X Q ⟨some d, .call ⟨.builtin .append, #[x, y], #[T, T]⟩, U, ps, af, g⟩ l L C := by
  refine Ld.app hT hsz hby hz (.one hz1) rfl hN hx hy hb.t hv (by simp [vI_length]) (by simp [vI_length]; exact hc) (by simp [vI_length]) vI_one (fun e => ?_) hfit (by omega) hlen fun b' c' sp' hl => ?_
  · obtain ⟨h1, h2, h3⟩ := hnil e
    subst h1; subst h2
    exact ⟨rfl, by simpa using hc.symm, h3⟩
  · have := h b' sp'
    rw [vI_append] at this
    have e : c' = (xs ++ ys).length + sp'.length := by
      simp only [List.length_append, vI_length, Nat.mul_one] at hl ⊢
      exact hl.symm
    rw [e]
    simpa only [List.length_append] using this
/-- append onto a row of structs. -/
theorem Ld.appS {α : Type} {T E U sz by_ d c c2 : Nat} {x y : Operand} {ps : String} {af : Array Edge} {g : Option (Nat × Bool)} {z : Value} {zs : List Value} {ob : Option Nat} {a : Addr} {f : α → List Value} {xs ys : List α} {sp : List Value} {C : Tl → Bl → Prop} (hT : X.P.underlying T = some (.slice E)) (hsz : szB X.P E = some sz) (hby : byB X.P E = some by_) (hz : zeB X.P E = some z) (hcl : Cl z zs) (hzl : zs.length = sz) (hN : Nat.blt d X.N = true)
    (hf : ∀ x, (f x).length = sz) (hf1 : ∀ x, ∀ v ∈ f x, v.oneCell' = true)
    (hx : opv l x = some (.slice (oA ob) xs.length c)) (hy : opv l y = some (.slice (some a) ys.length c2)) [hb : TkC ob L (.cells (xs.flatMap f ++ sp) E) R] (hv : Vw X.F L a (ys.flatMap f))
    (hc : xs.length * sz + sp.length = c * sz) (hnil : ob = none → xs = [] ∧ sp = [] ∧ 0 < ys.length) (hfit : (xs.length + ys.length) * by_ ≤ 140737488355328) (hsz0 : 0 < sz) (hlen : xs.length + ys.length ≤ 9223372036854775807)
    (h : ∀ b' c' sp', (xs ++ ys).length * sz + sp'.length = c' * sz → C ((d, .slice (some ⟨b', 0, none⟩) (xs ++ ys).length c') :: l) ((some b', .cells ((xs ++ ys).flatMap f ++ sp') E) :: R)) : Ld X Q ⟨some d, .call ⟨.builtin .append, #[x, y], #[T, T]⟩, U, ps, af, g⟩ l L C := by
  have fl : ∀ zs : List α, (zs.flatMap f).length = zs.length * sz := by
    intro zs
    induction zs with
    | nil => simp
    | cons x zs ih => simp only [List.flatMap_cons, List.length_append, hf, ih, List.length_cons, Nat.add_mul]; omega
  refine Ld.app hT hsz hby hz hcl hzl hN hx hy hb.t hv (fl xs) (by rw [fl]; exact hc) (fl ys) (fun v hv => ?_) (fun e => ?_) hfit hsz0 hlen fun b' c' sp' hl => ?_
  · obtain ⟨x, _, hm⟩ := List.mem_flatMap.1 hv
    exact hf1 x v hm
  · obtain ⟨h1, h2, h3⟩ := hnil e
    subst h1; subst h2
    refine ⟨rfl, ?_, h3⟩
    simp only [List.length_nil, Nat.zero_mul, Nat.zero_add] at hc
    rcases Nat.mul_eq_zero.1 (show c * sz = 0 by simpa using hc.symm) with h | h
    · exact h
    · omega
  · have := h b' c' sp' (by rw [← hl]; simp only [List.length_append, fl, Nat.add_mul])
    rw [List.flatMap_append] at this
    simpa only [List.length_append] using this
end
theorem flatMap_len {α : Type} {f : α → List Value} {sz : Nat} (hf : ∀ x, (f x).length = sz) : ∀ zs : List α, (zs.flatMap f).length = zs.length * sz
  | [] => by simp
  | x :: zs => by simp only [List.flatMap_cons, List.length_append, hf, flatMap_len hf zs, List.length_cons, Nat.add_mul]; omega
/-- One struct out of a row. -/
theorem cut_flatMap {α : Type} {f : α → List Value} {sz : Nat} (hf : ∀ x, (f x).length = sz) : ∀ (xs : List α) (sp : List Value) (i : Nat) (x : α), xs[i]? = some x → cut (xs.flatMap f ++ sp) (i * sz) sz = f x
  | [], sp, i, x, h => by simp at h
  | y :: ys, sp, 0, x, h => by
    simp only [List.length_cons, Nat.zero_lt_succ, List.getElem?_eq_getElem, List.getElem_cons_zero, Option.some.injEq] at h
    subst h
    simp only [cut, Nat.zero_mul, List.drop_zero, List.flatMap_cons, List.append_assoc]
    rw [List.take_append_of_le_length (by rw [hf]; exact Nat.le_refl _), List.take_of_length_le (by rw [hf]; exact Nat.le_refl _)]
  | y :: ys, sp, i + 1, x, h => by
    have := cut_flatMap hf ys sp i x (by simpa using h)
    simp only [cut, List.flatMap_cons, List.append_assoc] at this ⊢
    have e : (i + 1) * sz = (f y).length + i * sz := by rw [hf, Nat.add_mul]; omega
    rw [e, ← List.drop_drop, List.drop_left]
    exact this
theorem nth_flatMap {α : Type} {f : α → List Value} {sz : Nat} (hf : ∀ x, (f x).length = sz) {xs : List α} {sp : List Value} {i j : Nat} {x : α} (h : xs[i]? = some x) (hj : j < sz) : (xs.flatMap f ++ sp)[i * sz + j]? = (f x)[j]? := by
  have := cut_flatMap hf xs sp i x h
  rw [← this]
  simp only [cut]
  rw [List.getElem?_take, if_pos hj, List.getElem?_drop]
/-- A place that no block takes. -/
theorem mem_nil {L : Bl} {B C : Blk} {b : Nat} (h : (some b, C) ∈ (none, B) :: L) : (some b, C) ∈ L := by
  rcases List.mem_cons.1 h with hm | hm
  · simp at hm
  · exact hm
theorem St.nilIn {F : Fr} {w : World} {L : Bl} (h : St F w L) (B : Blk) : St F w ((none, B) :: L) :=
  ⟨fun b C hm => h.own b C (mem_nil hm), by simpa [List.filterMap_cons] using h.nodup, h.fr, fun b C hm => h.apart b C (mem_nil hm), h.os, h.tape, h.output, h.size⟩
theorem GC.addNil {X : Cx} {c : Code} {Q : Xt} {l : Tl} {L : Bl} (B : Blk) (h : GC X c Q l ((none, B) :: L)) : GC X c Q l L := fun a w he hs => h a w he (hs.nilIn B)
theorem G.addNil {X : Cx} {ops : Array Oper} {Q : Xt} {r : List Oper} {K : Kt} {l : Tl} {L : Bl} (B : Blk) (h : G X ops Q r K l ((none, B) :: L)) : G X ops Q r K l L := fun a w he hs => h a w he (hs.nilIn B)
theorem GK.addNil {X : Cx} {K : Kt} {l : Tl} {L : Bl} (B : Blk) (h : GK X K l ((none, B) :: L)) : GK X K l L := fun a w he hs => h a w he (hs.nilIn B)
theorem Ext.trans {F F' F2 : Fr} {R R2 : Bl} (h : Ext F F' R) (h2 : Ext F' F2 R2) : Ext F F2 [] := ⟨fun ho => h2.fr (h.fr ho), fun hm => by cases hm⟩
theorem Ext.refl (F : Fr) : Ext F F [] := ⟨fun ho => ho, fun hm => by cases hm⟩
end Go.Sx
