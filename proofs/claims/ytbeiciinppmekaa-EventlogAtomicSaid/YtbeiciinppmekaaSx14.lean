/-
  What an argument reads as stays so when memory only grows; a result that is true. Lemmas only; no condition.
-/
import Derived.Test.YtbeiciinppmekaaSx13
import Derived.ProofKit
set_option linter.unusedSimpArgs false
set_option linter.unusedVariables false
namespace Go.Sx
open Go Go.ChangeShapes Go.WideShapes Go.ChangeAt Go.RowKit
theorem mapM_ext {α β : Type} {f g : α → Option β} (h : ∀ a b, f a = some b → g a = some b) : ∀ (l : List α) {r : List β}, l.mapM f = some r → l.mapM g = some r
  | [], r, e => by simpa using e
  | a :: l, r, e => by
    simp only [List.mapM_cons, Option.pure_def, Option.bind_eq_bind, Option.bind_eq_some_iff, Option.some.injEq] at e ⊢
    obtain ⟨b, hb, bs, hbs, e⟩ := e
    exact ⟨b, h a b hb, bs, mapM_ext h l hbs, e⟩
theorem mapM_nth {α β : Type} {f : α → Option β} : ∀ {l : List α} {r : List β}, l.mapM f = some r → ∀ (i : Nat) (a : α), l[i]? = some a → ∃ b, f a = some b
  | [], _, _, i, a, h => by simp at h
  | x :: l, r, e, i, a, h => by
    simp only [List.mapM_cons, Option.pure_def, Option.bind_eq_bind, Option.bind_eq_some_iff, Option.some.injEq] at e
    obtain ⟨b, hb, bs, hbs, e⟩ := e
    cases i with
    | zero => simp at h; subst h; exact ⟨b, hb⟩
    | succ i => exact mapM_nth hbs i a (by simpa using h)
/-- The first n types speak of themselves alone; their slices' elements have cells. -/
def closB (P : Program) (n : Nat) : Bool := (List.range n).all fun t => match P.underlying t with
  | some (.slice e) => Nat.blt e n && Nat.blt 0 (P.cellsOf e)
  | some (.pointer e) => Nat.blt e n
  | some (.array _ e) => Nat.blt e n
  | some (.struct fs) => fs.toList.all fun f => Nat.blt f.type n
  | some (.map _ e) => Nat.blt e n
  | _ => true
theorem closB_at {P : Program} {n t : Nat} {d : TypeDesc} (h : closB P n = true) (ht : t < n) (hd : P.underlying t = some d) : (match d with
  | .slice e => Nat.blt e n && Nat.blt 0 (P.cellsOf e)
  | .pointer e => Nat.blt e n
  | .array _ e => Nat.blt e n
  | .struct fs => fs.toList.all fun f => Nat.blt f.type n
  | .map _ e => Nat.blt e n
  | _ => true) = true := by
  have h1 := List.all_eq_true.1 h t (List.mem_range.2 ht)
  rw [hd] at h1
  cases d <;> exact h1
theorem mapM_extm {α β : Type} {f g : α → Option β} : ∀ (l : List α) {r : List β}, (∀ a ∈ l, ∀ b, f a = some b → g a = some b) → l.mapM f = some r → l.mapM g = some r
  | [], r, _, e => by simpa using e
  | a :: l, r, h, e => by
    simp only [List.mapM_cons, Option.pure_def, Option.bind_eq_bind, Option.bind_eq_some_iff, Option.some.injEq] at e ⊢
    obtain ⟨b, hb, bs, hbs, e⟩ := e
    exact ⟨b, h a (List.mem_cons_self ..) b hb, bs, mapM_extm l (fun a ha => h a (List.mem_cons_of_mem _ ha)) hbs, e⟩
/-- Memory that only grew. -/
def Grew (w w' : World) : Prop := ∀ (b : Nat) (o : Obj), w.heap[b]? = some o → w'.heap[b]? = some o
section
variable {w w' : World} (hx : Grew w w')
include hx
theorem Grew.cell {a : Addr} {v : Value} (h : w.cell? a = some v) : w'.cell? a = some v := by
  unfold World.cell? at h ⊢
  cases hb : w.heap[a.block]? with
  | none => simp [hb] at h
  | some o => rw [hx _ _ hb]; rw [hb] at h; exact h
theorem Grew.cells {base : Nat} {a : Addr} {n : Nat} {cs : List Value} (h : w.cells? base a n = some cs) : w'.cells? base a n = some cs := by
  unfold World.cells? at h ⊢
  split at h
  · rename_i hb
    rw [if_pos hb]
    exact mapM_ext (fun i v hv => hx.cell hv) _ h
  · cases h
omit hx in
theorem cells_lt {base : Nat} {a : Addr} {n : Nat} {cs : List Value} (h : w.cells? base a n = some cs) (hn : 0 < n) : a.block < w.heap.size := by
  unfold World.cells? at h
  split at h
  · obtain ⟨v, hv⟩ := mapM_nth h 0 0 (by rw [List.getElem?_range hn])
    rw [show a.add 0 = a from rfl] at hv
    unfold World.cell? at hv
    cases hb : w.heap[a.block]? with
    | none => simp [hb] at hv
    | some o => exact (Array.getElem?_eq_some_iff.1 hb).1
  · cases h
variable {H : Type} {enc : TypeId × Value → H} {P : Program} {base m : Nat} {sp : Nat → Bool} (hsp : ∀ b, b < w.heap.size → sp b = true) (hz : closB P m = true)
include hsp hz
theorem Grew.trod : ∀ (fuel : Nat) (t : TypeId) (cs : List Value) (x : DataW H × List MemPlace), t < m → DataW.trod enc P w base (fun _ => true) true fuel t cs = some x → DataW.trod enc P w' base sp true fuel t cs = some x
  | 0, t, cs, x, _, h => by simp [DataW.trod] at h
  | fuel + 1, t, cs, x, htm, h => by
    have ih := Grew.trod fuel
    have ihc : ∀ (t : TypeId) (a : Addr) (y : DataW H × List MemPlace) (n : Nat), t < m → (w.cells? base a n).bind (DataW.trod enc P w base (fun _ => true) true fuel t) = some y → (w'.cells? base a n).bind (DataW.trod enc P w' base sp true fuel t) = some y := by
      intro t a y n ht h
      rw [Option.bind_eq_some_iff] at h ⊢
      obtain ⟨cs, h1, h2⟩ := h
      exact ⟨cs, hx.cells h1, ih _ _ _ ht h2⟩
    unfold DataW.trod at h ⊢
    split at h <;> try exact h
    · rename_i heq
      have hcl := closB_at hz htm heq
      simp only [Nat.blt_eq] at hcl
      rw [Option.map_eq_some_iff] at h ⊢
      obtain ⟨y, h1, h2⟩ := h
      exact ⟨y, ihc _ _ _ _ hcl h1, h2⟩
    · rename_i e a len cap heq
      have hcl := closB_at hz htm heq
      simp only [Bool.and_eq_true, Nat.blt_eq] at hcl
      split at h
      · rename_i hc
        rw [if_pos hc]
        simp only [if_true, Option.bind_eq_some_iff, Option.map_eq_some_iff] at h ⊢
        obtain ⟨elems, h1, rest, h2, h3⟩ := h
        refine ⟨elems, mapM_ext (fun i y hy => ihc _ _ _ _ hcl.1 hy) _ h1, ?_⟩
        by_cases hs : sp a.block = true
        · rw [if_pos hs]
          exact ⟨rest, mapM_ext (fun i y hy => ihc _ _ _ _ hcl.1 hy) _ h2, h3⟩
        · rw [if_neg hs]
          have hcl0 : cap - len = 0 := by
            rcases Nat.eq_zero_or_pos (cap - len) with h0 | h0
            · exact h0
            · obtain ⟨y, hy⟩ := mapM_nth h2 0 0 (by rw [List.getElem?_range h0])
              rw [Option.bind_eq_some_iff] at hy
              obtain ⟨cs, hy, _⟩ := hy
              have := cells_lt hy hcl.2
              rw [block_add] at this
              exact absurd (hsp _ this) hs
          rw [hcl0] at h2
          have : rest = [] := by simpa using h2.symm
          subst this
          exact ⟨[], rfl, h3⟩
      · cases h
    · rename_i heq
      have hcl := closB_at hz htm heq
      simp only [List.all_eq_true, Nat.blt_eq] at hcl
      split at h
      · rename_i hc
        rw [if_pos hc]
        rw [Option.map_eq_some_iff] at h ⊢
        obtain ⟨xs, h1, h2⟩ := h
        exact ⟨xs, mapM_extm _ (fun f hf y hy => ih _ _ _ (hcl f hf) hy) h1, h2⟩
      · cases h
    · rename_i heq
      have hcl := closB_at hz htm heq
      simp only [Nat.blt_eq] at hcl
      split at h
      · rename_i hc
        rw [if_pos hc]
        rw [Option.map_eq_some_iff] at h ⊢
        obtain ⟨xs, h1, h2⟩ := h
        exact ⟨xs, mapM_ext (fun f y hy => ih _ _ _ hcl hy) _ h1, h2⟩
      · cases h
    · rename_i b heq
      have hcl := closB_at hz htm heq
      simp only [Nat.blt_eq] at hcl
      cases hb : w.heap[b]? with
      | none => simp [hb] at h
      | some o =>
        rw [hx _ _ hb]
        rw [hb] at h
        cases o with
        | map es clock =>
          simp only at h ⊢
          split at h
          · rename_i hc
            rw [if_pos hc]
            rw [Option.bind_eq_some_iff] at h ⊢
            obtain ⟨entries, h1, h2⟩ := h
            refine ⟨entries, mapM_ext (fun x y hy => ?_) _ h1, h2⟩
            rw [Option.bind_eq_some_iff] at hy ⊢
            obtain ⟨key, k1, k2⟩ := hy
            refine ⟨key, k1, ?_⟩
            split at k2
            · rename_i hf
              rw [if_pos hf]
              rw [Option.map_eq_some_iff] at k2 ⊢
              obtain ⟨z, z1, z2⟩ := k2
              exact ⟨z, ih _ _ _ hcl z1, z2⟩
            · cases k2
          · cases h
        | _ => simp at h
theorem Grew.trodAll : ∀ (ts : List TypeId) (vs : List Value) (ds : List (DataW H)) (ps : List MemPlace), (∀ t ∈ ts, t < m) → DataW.TrodAll enc P w base (fun _ => true) true ts vs ds ps → DataW.TrodAll enc P w' base sp true ts vs ds ps
  | [], [], [], ps, _, h => h
  | t :: ts, v :: vs, d :: ds, ps, htm, h => by
    obtain ⟨p, q, ⟨fuel, h1⟩, h2, h3⟩ := h
    exact ⟨p, q, ⟨fuel, hx.trod hsp hz fuel _ _ _ (htm t (List.mem_cons_self ..)) h1⟩, Grew.trodAll ts vs ds q (fun u hu => htm u (List.mem_cons_of_mem _ hu)) h2, h3⟩
  | [], [], _ :: _, _, _, h => h.elim
  | [], _ :: _, _, _, _, h => h.elim
  | _ :: _, [], _, _, _, h => h.elim
  | _ :: _, _ :: _, [], _, _, h => h.elim
end
end Go.Sx
