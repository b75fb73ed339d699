/-
  Opening what came in: numbers, rows of numbers, structs, rows of structs; the world of the start as a frame; the row's last step. Lemmas only; no condition.
-/
import Derived.Test.YtbeiciinppmekaaSx14
set_option linter.unusedSimpArgs false
set_option linter.unusedVariables false
namespace Go.Sx
open Go Go.ChangeShapes Go.WideShapes Go.ChangeAt Go.RowKit

/-- The world as a frame. -/
def F0 (W : World) : Fr := { h := fun b => W.heap[b]?, os := W.os, tape := W.tape, output := W.output, size := W.heap.size }
theorem St.start (W : World) : St (F0 W) W [] := ⟨fun _ _ h => (List.not_mem_nil h).elim, .nil, fun _ _ h => h, fun _ _ h => (List.not_mem_nil h).elim, rfl, rfl, rfl, Nat.le_refl _⟩
theorem F0.cell {W : World} {a : Addr} {v : Value} (h : W.cell? a = some v) : (F0 W).cell a = some v := by
  exact h
theorem St.grew {W w' : World} {L : Bl} (h : St (F0 W) w' L) : Grew W w' := fun b o ho => h.fr b o ho

/-! ### The leaves of a type -/
def leafB (P : Program) : Nat → TypeId → Option (List (Nat × TypeId))
  | 0, _ => none
  | d + 1, t => match P.underlying t with
    | some (.struct fs) => (fs.toList.mapM fun f => (leafB P d f.type).map fun l => l.map fun p => (f.offset + p.1, p.2)).map (·.flatten)
    | some (.array n e) => (leafB P d e).map fun l => (List.range n).flatMap fun i => l.map fun p => (i * P.cellsOf e + p.1, p.2)
    | some _ => some [(0, t)]
    | none => none
section
variable {H : Type} {enc : TypeId × Value → H} {P : Program} {w : World} {base : Nat} {spare : Nat → Bool} {held : Bool}
theorem trod_leaf1 {fuel : Nat} {t : TypeId} {d : TypeDesc} {cs : List Value} {x : DataW H × List MemPlace} (ht : P.underlying t = some d) (h1 : ∀ fs, d ≠ .struct fs) (h2 : ∀ n e, d ≠ .array n e) (h : DataW.trod enc P w base spare held fuel t cs = some x) : ∃ v, cs = [v] := by
  cases fuel with
  | zero => simp [DataW.trod] at h
  | succ n =>
    unfold DataW.trod at h
    rw [ht] at h
    split at h <;> first | exact ⟨_, rfl⟩ | (rename_i heq; cases heq; first | exact absurd rfl (h1 _) | exact absurd rfl (h2 _ _)) | cases h | skip
    all_goals first | (rename_i heq _; cases heq; first | exact absurd rfl (h1 _) | exact absurd rfl (h2 _ _)) | skip
theorem mapM_mem {α β : Type} {f : α → Option β} : ∀ {l : List α} {r : List β}, l.mapM f = some r → ∀ b ∈ r, ∃ (i : Nat) (a : α), l[i]? = some a ∧ f a = some b
  | [], r, e, b, hb => by simp at e; subst e; simp at hb
  | x :: l, r, e, b, hb => by
    simp only [List.mapM_cons, Option.pure_def, Option.bind_eq_bind, Option.bind_eq_some_iff, Option.some.injEq] at e
    obtain ⟨y, hy, bs, hbs, e⟩ := e
    subst e
    rcases List.mem_cons.1 hb with rfl | hb
    · exact ⟨0, x, rfl, hy⟩
    · obtain ⟨i, a, h1, h2⟩ := mapM_mem hbs b hb
      exact ⟨i + 1, a, by simpa using h1, h2⟩
/-- Each leaf of a struct reads. -/
theorem trod_leaves : ∀ (d : Nat) {fuel : Nat} {t : TypeId} {cs : List Value} {x : DataW H × List MemPlace} {l : List (Nat × TypeId)}, leafB P d t = some l → DataW.trod enc P w base spare held fuel t cs = some x →
    ∀ p ∈ l, ∃ v n y, cs[p.1]? = some v ∧ DataW.trod enc P w base spare held n p.2 [v] = some y
  | 0, fuel, t, cs, x, l, hl, h, p, hp => by simp [leafB] at hl
  | d + 1, fuel, t, cs, x, l, hl, h, p, hp => by
    have sub : ∀ {o n k : Nat} {v : Value}, ((cs.drop o).take n)[k]? = some v → cs[o + k]? = some v := by
      intro o n k v hv
      rw [List.getElem?_take] at hv
      split at hv
      · rwa [List.getElem?_drop] at hv
      · cases hv
    unfold leafB at hl
    cases hu : P.underlying t with
    | none => rw [hu] at hl; cases hl
    | some dd =>
      rw [hu] at hl
      cases dd with
      | struct fs =>
        simp only [Option.map_eq_some_iff] at hl
        obtain ⟨ls, h1, rfl⟩ := hl
        obtain ⟨l1, hl1, hp⟩ := List.mem_flatten.1 hp
        obtain ⟨i, f, hf, h2⟩ := mapM_mem h1 l1 hl1
        rw [Option.map_eq_some_iff] at h2
        obtain ⟨l2, h2, rfl⟩ := h2
        obtain ⟨q, hq, rfl⟩ := List.mem_map.1 hp
        obtain ⟨xs, n, _, _, _, hlen, hfs⟩ := DataW.trod_struct hu h
        have hf' : fs[i]? = some f := by simpa using hf
        have hi : i < xs.length := by rw [hlen]; exact (Array.getElem?_eq_some_iff.1 hf').1
        have h3 := hfs i f hf'
        rw [List.getElem?_eq_getElem hi] at h3
        obtain ⟨v, m, y, h4, h5⟩ := trod_leaves d h2 h3 q hq
        exact ⟨v, m, y, sub h4, h5⟩
      | array n e =>
        simp only [Option.map_eq_some_iff] at hl
        obtain ⟨l1, h1, rfl⟩ := hl
        obtain ⟨i, hi, hp⟩ := List.mem_flatMap.1 hp
        obtain ⟨q, hq, rfl⟩ := List.mem_map.1 hp
        have hin := List.mem_range.1 hi
        cases fuel with
        | zero => simp [DataW.trod] at h
        | succ m =>
          unfold DataW.trod at h
          rw [hu] at h
          simp only at h
          split at h
          · rw [Option.map_eq_some_iff] at h
            obtain ⟨xs, h2, _⟩ := h
            obtain ⟨y, hy⟩ := mapM_nth h2 i i (by rw [List.getElem?_range hin])
            obtain ⟨v, m', y', h4, h5⟩ := trod_leaves d h1 hy q hq
            exact ⟨v, m', y', sub h4, h5⟩
          · cases h
      | _ =>
        simp only [Option.some.injEq] at hl
        subst hl
        simp only [List.mem_singleton] at hp
        subst hp
        obtain ⟨v, rfl⟩ := trod_leaf1 hu (by intro fs e; cases e) (by intro n e h; cases h) h
        exact ⟨v, fuel, x, rfl, h⟩
theorem trod_len {fuel : Nat} {t : TypeId} {fs : Array Field} {cs : List Value} {x : DataW H × List MemPlace} (hu : P.underlying t = some (.struct fs)) (h : DataW.trod enc P w base spare held fuel t cs = some x) : cs.length = P.cellsOf t := by
  obtain ⟨_, _, _, _, h, _⟩ := DataW.trod_struct hu h
  exact h
/-- The values from place k on. -/
def Gets (cs : List Value) : Nat → List Value → Prop
  | _, [] => True
  | k, v :: vs => cs[k]? = some v ∧ Gets cs (k + 1) vs
theorem Gets.eq {cs vs : List Value} (h : Gets cs 0 vs) (hl : cs.length = vs.length) : cs = vs := by
  have key : ∀ (vs : List Value) (k : Nat), Gets cs k vs → ∀ i v, vs[i]? = some v → cs[k + i]? = some v := by
    intro vs
    induction vs with
    | nil => intro k _ i v h; simp at h
    | cons u vs ih =>
      intro k hg i v hv
      cases i with
      | zero => simp at hv; subst hv; exact hg.1
      | succ i =>
        have := ih (k + 1) hg.2 i v (by simpa using hv)
        rwa [show k + 1 + i = k + (i + 1) by omega] at this
  apply List.ext_getElem?
  intro i
  by_cases hi : i < vs.length
  · have := key vs 0 h i vs[i] (List.getElem?_eq_getElem hi)
    rw [Nat.zero_add] at this
    rw [this, List.getElem?_eq_getElem hi]
  · rw [List.getElem?_eq_none (by omega), List.getElem?_eq_none (by omega)]
theorem leaf_int {fuel : Nat} {t : TypeId} {k : IntKind} {v : Value} {x : DataW H × List MemPlace} (ht : P.underlying t = some (.int k)) (h : DataW.trod enc P w base spare held fuel t [v] = some x) : ∃ n, v = .int k n ∧ (Lit.int k n).wf = true := by
  obtain ⟨n, h1, _, h2⟩ := DataW.trod_int ht h
  exact ⟨n, by simpa using h1, h2⟩
theorem leaf_bool {fuel : Nat} {t : TypeId} {v : Value} {x : DataW H × List MemPlace} (ht : P.underlying t = some .bool) (h : DataW.trod enc P w base spare held fuel t [v] = some x) : ∃ b, v = .bool b := by
  cases fuel with
  | zero => simp [DataW.trod] at h
  | succ n =>
    unfold DataW.trod at h
    rw [ht] at h
    split at h <;> simp_all
theorem wf_rng {k : IntKind} {n : Int} (h : (Lit.int k n).wf = true) : k.min ≤ n ∧ n ≤ k.max := by simpa [Lit.wf] using h
/-- A row of numbers. -/
theorem leaf_ints {fuel : Nat} {t e : TypeId} {k : IntKind} {v : Value} {x : DataW H × List MemPlace} (ht : P.underlying t = some (.slice e)) (he : P.underlying e = some (.int k)) (hc : P.cellsOf e = 1) (h : DataW.trod enc P w base (fun _ => true) held fuel t [v] = some x) :
    ∃ (A : Option Addr) (l : List Int) (c : Nat), v = .slice A l.length c ∧ VwF (F0 w) A (vI k l) ∧ l.length ≤ c ∧ c ≤ maxLen ∧ ∀ n ∈ l, (Lit.int k n).wf = true := by
  rcases open_ints ht he hc h with ⟨h1, _⟩ | ⟨a, len, cap, zs, h1, _, h2, h3, h4, _, h5, h6⟩
  · simp only [List.cons.injEq, and_true] at h1
    exact ⟨none, [], 0, h1, VwF.nil, Nat.le_refl _, Nat.zero_le _, fun n hn => by simp at hn⟩
  · simp only [List.cons.injEq, and_true] at h1
    simp only [if_true] at h4
    have hl : (zs.take len).length = len := by rw [List.length_take]; omega
    refine ⟨some a, zs.take len, cap, by rw [hl]; exact h1, ?_, by rw [hl]; exact h2, h3, fun n hn => h6 n (List.mem_of_mem_take hn)⟩
    intro j u hu
    have hj : j < len := by
      have := (List.getElem?_eq_some_iff.1 hu).1
      rw [vI_length, hl] at this
      exact this
    refine ⟨a, rfl, F0.cell ?_⟩
    have h7 := h5 j (by omega)
    rw [h7]
    simp only [vI, List.getElem?_map, List.getElem?_take, if_pos hj, Option.map_eq_some_iff] at hu
    obtain ⟨z, hz, rfl⟩ := hu
    rw [List.getD_eq_getElem?_getD, hz]; rfl
/-- A row of structs. -/
theorem leaf_rows {α : Type} {f : α → List Value} {Q : α → Prop} {fuel : Nat} {t e sz : Nat} {v : Value} {x : DataW H × List MemPlace} (ht : P.underlying t = some (.slice e)) (hc : P.cellsOf e = sz) (hf : ∀ a, (f a).length = sz)
    (hel : ∀ n cs y, DataW.trod enc P w base (fun _ => true) held n e cs = some y → ∃ a, cs = f a ∧ Q a) (h : DataW.trod enc P w base (fun _ => true) held fuel t [v] = some x) :
    ∃ (A : Option Addr) (l : List α) (c : Nat), v = .slice A l.length c ∧ VwF (F0 w) A (l.flatMap f) ∧ l.length ≤ c ∧ c ≤ maxLen ∧ ∀ a ∈ l, Q a := by
  rcases DataW.trod_slice ht h with ⟨h1, _⟩ | ⟨a, len, cap, elems, rest, n, _, h1, _, _, h2, h3, h4, h5, _, _⟩
  · simp only [List.cons.injEq, and_true] at h1
    exact ⟨none, [], 0, h1, VwF.nil, Nat.le_refl _, Nat.zero_le _, fun n hn => by simp at hn⟩
  · simp only [List.cons.injEq, and_true] at h1
    have each : ∀ i, i < len → ∃ b : α, w.cells? base (a.add (i * sz)) sz = some (f b) ∧ Q b := by
      intro i hi
      have h6 := h5 i hi
      rw [List.getElem?_eq_getElem (by omega), Option.bind_eq_some_iff] at h6
      obtain ⟨cs, h7, h8⟩ := h6
      obtain ⟨b, rfl, hb⟩ := hel _ _ _ h8
      rw [hc] at h7
      exact ⟨b, h7, hb⟩
    have build : ∀ m, m ≤ len → ∃ l : List α, l.length = m ∧ (∀ i b, l[i]? = some b → w.cells? base (a.add (i * sz)) sz = some (f b) ∧ Q b) := by
      intro m
      induction m with
      | zero => intro _; exact ⟨[], rfl, fun i b hb => by simp at hb⟩
      | succ m ih =>
        intro hm
        obtain ⟨l, h6, h7⟩ := ih (by omega)
        obtain ⟨b, hb⟩ := each m (by omega)
        refine ⟨l ++ [b], by simp [h6], fun i c hc => ?_⟩
        by_cases hi : i < l.length
        · rw [List.getElem?_append_left hi] at hc
          exact h7 i c hc
        · rw [List.getElem?_append_right (by omega)] at hc
          have : i = m := by
            have := (List.getElem?_eq_some_iff.1 hc).1
            simp at this
            omega
          subst this
          rw [h6, Nat.sub_self] at hc
          simp at hc
          subst hc
          exact hb
    obtain ⟨l, hl, hb⟩ := build len (Nat.le_refl _)
    refine ⟨some a, l, cap, by rw [hl]; exact h1, ?_, by rw [hl]; exact h2, h3, fun b hb' => ?_⟩
    · intro j u hu
      refine ⟨a, rfl, F0.cell ?_⟩
      have hsz : 0 < sz := by
        rcases Nat.eq_zero_or_pos sz with h0 | h0
        · have e0 : l.flatMap f = [] := by
            rw [List.flatMap_eq_nil_iff]
            intro b _
            exact List.eq_nil_of_length_eq_zero (by rw [hf]; exact h0)
          rw [e0] at hu
          simp at hu
        · exact h0
      have hj := (List.getElem?_eq_some_iff.1 hu).1
      rw [flatMap_len hf] at hj
      have hdiv : j / sz < l.length := Nat.div_lt_of_lt_mul (by rw [Nat.mul_comm]; exact hj)
      obtain ⟨b, hlb⟩ : ∃ b, l[j / sz]? = some b := ⟨_, List.getElem?_eq_getElem hdiv⟩
      have h8 := (hb _ b hlb).1
      have hmod := Nat.mod_lt j hsz
      have h9 := (World.cells?_some h8).2.2 (j % sz) hmod
      have h10 := nth_flatMap (sp := []) hf hlb hmod
      rw [List.append_nil, show j / sz * sz + j % sz = j by rw [Nat.mul_comm]; exact Nat.div_add_mod j sz] at h10
      rw [add_add, show j / sz * sz + j % sz = j by rw [Nat.mul_comm]; exact Nat.div_add_mod j sz, ← h10, hu] at h9
      exact h9
    · obtain ⟨i, hi⟩ := List.getElem?_of_mem hb'
      exact (hb i b hi).2
end
/-- The row's last step: the law returned true, and memory only grew. -/
theorem post_true {H : Type} {enc : TypeId × Value → H} {P : Program} {f : Func} {s : ChangeSpec} {apart fresh handsOn again : Bool} {W W' : World} {args : Array Value} {v : Value} {ds gs : List (DataW H)} {before : List MemPlace}
    (hW : DataW.Whole enc P f.params.toList s.vars apart W args.toList ds gs before) (hv : s.vars = []) {m : Nat} (hz : closB P m = true) (hts : ∀ t ∈ f.params.toList, t < m) (hx : Grew W W') (hos : W'.os = W.os) (hout : W'.output = W.output)
    (hres : ∀ (b : Nat) (sp : Nat → Bool) (hd : Bool), DataW.TrodAll enc P W' b sp hd f.resultTypes.toList (v.resultList f.resultTypes.size) (s.fn H (ds ++ gs)).results [])
    (hsa : (s.fn H (ds ++ gs)).args = ds) (hsv : (s.fn H (ds ++ gs)).vars = [])
    (hok : ∀ (j : Nat) (t : TypeId) (r : Value), f.resultTypes[j]? = some t → (v.resultList f.resultTypes.size)[j]? = some r → Value.okWide P W' .any 0 t r) :
    s.post enc P f apart fresh handsOn again W args v W' := by
  have hlt := hW.lt
  obtain ⟨p, q, hA, hV, hpq, hn, hnd⟩ := id hW
  rw [hv] at hV
  have hq : q = [] ∧ gs = [] := by
    cases gs with
    | nil => exact ⟨hV, rfl⟩
    | cons g gs => exact hV.elim
  obtain ⟨rfl, rfl⟩ := hq
  rw [List.append_nil] at hpq
  have hA' : ∀ sp : Nat → Bool, (∀ b, b < W.heap.size → sp b = true) → DataW.TrodAll enc P W' 0 sp true f.params.toList args.toList ds p := fun sp hsp => hx.trodAll hsp hz _ _ _ _ hts hA
  have hVs : ∀ sp : Nat → Bool, DataW.TrodVars enc P W' sp s.vars (s.fn H (ds ++ [])).vars [] := fun sp => by rw [hv, hsv]; rfl
  refine ⟨ds, [], before, [], p, [], hW, hres _ _ _, by rw [hsa]; exact hA' _ (fun b hb => by simpa using hb), hVs _, ?_, fun _ => ?_⟩
  · refine ⟨hos, hout, fun i hi => ?_⟩
    have h1 : W.heap[i]? = some W.heap[i] := Array.getElem?_eq_getElem hi
    rw [h1, hx i _ h1]
    cases W.heap[i] <;> simp
  · refine ⟨hok, _, _, ([] ++ p) ++ [], ⟨[] ++ p, [], trodAll_append (hA' _ (fun _ _ => rfl)) (hres _ _ _), hVs _, rfl, ?_, ?_⟩, ?_⟩
    · intro b off hp
      have hp' : MemPlace.cell b off ∈ before := by rw [hpq]; simpa using hp
      have h2 := hn b off hp'
      have h3 : b < W.heap.size := hlt _ hp'
      have h1 : W.heap[b]? = some W.heap[b] := Array.getElem?_eq_getElem h3
      unfold World.frozen? at h2 ⊢
      simp only at h2 ⊢
      rw [hx b _ h1]
      rw [h1] at h2
      exact h2
    · intro ha
      have := hnd ha
      rw [hpq] at this
      simpa using this
    · intro m hm _
      rw [hpq]
      simpa using hm
end Go.Sx
