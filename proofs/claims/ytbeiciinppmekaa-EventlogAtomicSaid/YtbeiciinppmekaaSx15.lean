/-
  Opening what came in: numbers, rows of numbers, structs, rows of structs; the world of the start as a frame; the row's last step. Lemmas only; no condition.
-/
import Derived.Test.YtbeiciinppmekaaSx14
set_option linter.unusedSimpArgs false
set_option linter.unusedVariables false
namespace Go.Sx
open Go Go.ChangeShapes Go.WideShapes Go.ChangeAt Go.RowKit
/-- The world as a frame. -/
def F0 (W : World) : Fr := { h := fun b => W.heap[b]?, os := W.os, tape := W.tape, output := W.output, size := W.heap.size }
theorem St.start (W : World) : St (F0 W) W [] := ⟨fun _ _ h => (List.not_mem_nil h).elim, .nil, fun _ _ h => h, fun _ _ h => (List.not_mem_nil h).elim, rfl, rfl, rfl, Nat.le_refl _⟩
theorem F0.cell {W : World} {a : Addr} {v : Value} (h : W.cell? a = some v) : (F0 W).cell a = some v := by
  exact h
theorem St.grew {W w' : World} {L : Bl} (h : St (F0 W) w' L) : Grew W w' := fun b o ho => h.fr b o ho
section
variable {H : Type} {enc : TypeId × Value → H} {P : Program} {w : World} {base : Nat} {spare : Nat → Bool} {held : Bool}
theorem wf_rng {k : IntKind} {n : Int} (h : (Lit.int k n).wf = true) : k.min ≤ n ∧ n ≤ k.max := by simpa [Lit.wf] using h
/-- A row of numbers. -/
theorem leaf_ints {fuel : Nat} {t e : TypeId} {k : IntKind} {v : Value} {x : DataW H × List MemPlace} (ht : P.underlying t = some (.slice e)) (he : P.underlying e = some (.int k)) (hc : P.cellsOf e = 1) (h : DataW.trod enc P w base (fun _ => true) held fuel t [v] = some x) :
    ∃ (A : Option Addr) (l : List Int) (c : Nat), v = .slice A l.length c ∧ VwF (F0 w) A (vI k l) ∧ l.length ≤ c ∧ c ≤ maxLen ∧ ∀ n ∈ l, (Lit.int k n).wf = true := by
  rcases open_ints ht he hc h with ⟨h1, _⟩ | ⟨a, len, cap, zs, h1, _, h2, h3, h4, _, h5, h6⟩
  · simp only [List.cons.injEq, and_true] at h1
    exact ⟨none, [], 0, h1, VwF.nil, Nat.le_refl _, Nat.zero_le _, fun n hn => by simp at hn⟩
  · simp only [List.cons.injEq, and_true] at h1
    simp only [if_true] at h4
    have hl : (zs.take len).length = len := by rw [List.length_take]; omega
    refine ⟨some a, zs.take len, cap, by rw [hl]; exact h1, ?_, by rw [hl]; exact h2, h3, fun n hn => h6 n (List.mem_of_mem_take hn)⟩
    intro j u hu
    have hj : j < len := by
      have := (List.getElem?_eq_some_iff.1 hu).1
      rw [vI_length, hl] at this
      exact this
    refine ⟨a, rfl, F0.cell ?_⟩
    have h7 := h5 j (by omega)
    rw [h7]
    simp only [vI, List.getElem?_map, List.getElem?_take, if_pos hj, Option.map_eq_some_iff] at hu
    obtain ⟨z, hz, rfl⟩ := hu
    rw [List.getD_eq_getElem?_getD, hz]; rfl
end
/-- The row's last step: the law returned true, and memory only grew. -/
theorem post_true {H : Type} {enc : TypeId × Value → H} {P : Program} {f : Func} {s : ChangeSpec} {apart fresh handsOn again : Bool} {W W' : World} {args : Array Value} {v : Value} {ds gs : List (DataW H)} {before : List MemPlace}
    (hW : DataW.Whole enc P f.params.toList s.vars apart W args.toList ds gs before) (hv : s.vars = []) {m : Nat} (hz : closB P m = true) (hts : ∀ t ∈ f.params.toList, t < m) (hx : Grew W W') (hos : W'.os = W.os) (hout : W'.output = W.output)
    (hres : ∀ (b : Nat) (sp : Nat → Bool) (hd : Bool), DataW.TrodAll enc P W' b sp hd f.resultTypes.toList (v.resultList f.resultTypes.size) (s.fn H (ds ++ gs)).results [])
    (hsa : (s.fn H (ds ++ gs)).args = ds) (hsv : (s.fn H (ds ++ gs)).vars = [])
    (hok : ∀ (j : Nat) (t : TypeId) (r : Value), f.resultTypes[j]? = some t → (v.resultList f.resultTypes.size)[j]? = some r → Value.okWide P W' .any 0 t r) :
    s.post enc P f apart fresh handsOn again W args v W' := by
  have hlt := hW.lt
  obtain ⟨p, q, hA, hV, hpq, hn, hnd⟩ := id hW
  rw [hv] at hV
  have hq : q = [] ∧ gs = [] := by
    cases gs with
    | nil => exact ⟨hV, rfl⟩
    | cons g gs => exact hV.elim
  obtain ⟨rfl, rfl⟩ := hq
  rw [List.append_nil] at hpq
  have hA' : ∀ sp : Nat → Bool, (∀ b, b < W.heap.size → sp b = true) → DataW.TrodAll enc P W' 0 sp true f.params.toList args.toList ds p := fun sp hsp => hx.trodAll hsp hz _ _ _ _ hts hA
  have hVs : ∀ sp : Nat → Bool, DataW.TrodVars enc P W' sp s.vars (s.fn H (ds ++ [])).vars [] := fun sp => by rw [hv, hsv]; rfl
  refine ⟨ds, [], before, [], p, [], hW, hres _ _ _, by rw [hsa]; exact hA' _ (fun b hb => by simpa using hb), hVs _, ?_, fun _ => ?_⟩
  · refine ⟨hos, hout, fun i hi => ?_⟩
    have h1 : W.heap[i]? = some W.heap[i] := Array.getElem?_eq_getElem hi
    rw [h1, hx i _ h1]
    cases W.heap[i] <;> simp
  · refine ⟨hok, _, _, ([] ++ p) ++ [], ⟨[] ++ p, [], trodAll_append (hA' _ (fun _ _ => rfl)) (hres _ _ _), hVs _, rfl, ?_, ?_⟩, ?_⟩
    · intro b off hp
      have hp' : MemPlace.cell b off ∈ before := by rw [hpq]; simpa using hp
      have h2 := hn b off hp'
      have h3 : b < W.heap.size := hlt _ hp'
      have h1 : W.heap[b]? = some W.heap[b] := Array.getElem?_eq_getElem h3
      unfold World.frozen? at h2 ⊢
      simp only at h2 ⊢
      rw [hx b _ h1]
      rw [h1] at h2
      exact h2
    · intro ha
      have := hnd ha
      rw [hpq] at this
      simpa using this
    · intro m hm _
      rw [hpq]
      simpa using hm
end Go.Sx
