/-
  More operations: max and min, structs and arrays built of parts, function values, rows made and grown. Lemmas only; no condition.
-/
import Derived.Test.YtbeiciinppmekaaSx6
set_option linter.unusedSimpArgs false
set_option linter.unusedVariables false
namespace Go.Sx
open Go
section
variable {X : Cx} {l : Tl} {L : Bl} {Q : Xt}
theorem Qt.max2 {ts : Array TypeId} {x y : Operand} {k : IntKind} {p q : Int} (hx : opv l x = some (.int k p)) (hy : opv l y = some (.int k q)) : Qt X l L (.call ⟨.builtin .max, #[x, y], ts⟩) (.int k (max p q)) := by
  intro d T ps af g a w he hs
  simp [execOp, resolve, he.eval hx, he.eval hy, invoke, builtin, Builtin.max_, Builtin.max2]
  split <;> omega
theorem Qt.mkf {fn : Fn} {f c : List Operand} {vs us : List Value} (hf : opvs l f = some vs) (hc : opvs l c = some us) : Qt X l L (.makeFunc fn f.toArray c.toArray) (.func fn vs.toArray us.toArray) := by
  intro d T ps af g a w he hs
  have e1 := he.evals hf
  have e2 := he.evals hc
  simp [execOp, Instr.makeFunc, e1, e2]
/-- The places and the sizes of the fields of a struct. -/
def plB (P : Program) (T : Nat) : Option (List (Nat × Nat)) :=
  match P.underlying T with
  | some (.struct fs) => fs.toList.mapM (fun f => (P.info? f.type).map fun i => (f.offset, i.size))
  | _ => none
inductive Bd (pf : Nat → Option (Nat × Nat)) (l : Tl) : List (Nat × Operand) → List Value → List Value → Prop
  | nil (cs : List Value) : Bd pf l [] cs cs
  | cons {i o n : Nat} {x : Operand} {v : Value} {vs cs c1 c2 : List Value} {r : List (Nat × Operand)} (hp : pf i = some (o, n + 1)) (hx : opv l x = some v) (hc : Cl v vs) (hn : vs.length = n + 1) (hs : SetM cs o vs c1) (hr : Bd pf l r c1 c2) : Bd pf l ((i, x) :: r) cs c2
theorem SetAt.set {cs cs' : List Value} {o : Nat} {v : Value} (h : SetAt cs o v cs') : cs' = cs.set o v ∧ o < cs.length := by
  induction h with
  | z x cs v => simp
  | s x h ih => simp [ih.1, ih.2]
theorem SetM.fold {vs cs cs' : List Value} {o : Nat} (h : SetM cs o vs cs') : (vs.toArray.zipIdx.foldl (fun (a : Array Value) (p : Value × Nat) => a.setIfInBounds (o + p.2) p.1) cs.toArray) = cs'.toArray ∧ cs'.length = cs.length ∧ (vs = [] ∨ o + vs.length ≤ cs.length) := by
  have key : ∀ (vs cs : List Value) (o k : Nat) (cs' : List Value), SetM cs (o + k) vs cs' → ((vs.zipIdx k).foldl (fun (a : Array Value) (p : Value × Nat) => a.setIfInBounds (o + p.2) p.1) cs.toArray) = cs'.toArray ∧ cs'.length = cs.length ∧ (vs = [] ∨ o + k + vs.length ≤ cs.length) := by
    intro vs
    induction vs with
    | nil => intro cs o k cs' h; cases h; simp
    | cons v vs ih =>
      intro cs o k cs' h
      cases h with
      | cons h hs =>
        obtain ⟨e, hlt⟩ := h.set
        have h2 := ih _ o (k + 1) _ (by rw [← Nat.add_assoc]; exact hs)
        subst e
        refine ⟨?_, by rw [h2.2.1]; simp, .inr ?_⟩
        · simp only [List.zipIdx_cons, List.foldl_cons, List.setIfInBounds_toArray]
          exact h2.1
        · rcases h2.2.2 with h3 | h3
          · subst h3; simp; omega
          · simp at h3 ⊢; omega
  have := key vs cs o 0 cs' h
  simpa using this
theorem Bd.fill {pf : Nat → Option (Nat × Nat)} {parts : List (Nat × Operand)} {cs cs' : List Value} (h : Bd pf l parts cs cs') {N : Nat} {a : Act} (he : Env N a l) :
    Instr.fill pf cs.toArray (parts.map fun (i, x) => (i, a.eval x)) = some cs'.toArray := by
  induction h with
  | nil cs => rfl
  | @cons i o n x v vs cs c1 c2 r hp hx hc hn hs hr ih =>
    obtain ⟨h1, h2, h3⟩ := hs.fold
    have hcl := hc.cells
    have h4 : o + vs.length ≤ cs.length := by
      rcases h3 with h3 | h3
      · subst h3; simp at hn
      · exact h3
    simp only [List.map_cons, Instr.fill, hp, he.eval hx, hcl]
    have hsz : (decide (vs.toArray.size ≠ n + 1) || decide (o + vs.toArray.size > cs.toArray.size)) = false := by
      simp only [List.size_toArray, hn]
      simp
      omega
    have hsz' : ¬ (vs.toArray.size ≠ n + 1 || o + vs.toArray.size > cs.toArray.size) = true := by rw [hsz]; simp
    rw [if_neg hsz', h1]
    exact ih
theorem Qt.buildS {T : Nat} {parts : List (Nat × Operand)} {fs : Array Field} {pl : List (Nat × Nat)} {zs cs : List Value} (hu : X.P.underlying T = some (.struct fs)) (hpl : plB X.P T = some pl) (hz : zeB X.P T = some (.agg zs.toArray))
    (hb : Bd (fun i => pl[i]?) l parts zs cs) : Qt X l L (.build T parts.toArray) (.agg cs.toArray) := by
  intro d U ps af g a w he hs
  have hf := hb.fill he
  have e : (parts.toArray.map fun (i, x) => (i, a.eval x)) = (parts.map fun (i, x) => (i, a.eval x)).toArray := by simp
  unfold plB at hpl
  rw [hu] at hpl
  have hpl' := run_places (P := X.P) w fs.toList pl hpl
  have hpm : (fs.mapM fun f => do pure (f.offset, ← sizeOf f.type)) = List.toArray <$> (fs.toList.mapM fun f => Prod.mk f.offset <$> sizeOf f.type) := by
    rw [Array.mapM_eq_mapM_toList]
    simp
  simp only [execOp, e, Instr.build, Sem.run_bind, run_zero hz, Result.andThen_ok, run_und hu, Value.cells, hpm, Sem.run_map, hpl']
  have e2 : (fun x : Nat => pl.toArray[x]?) = fun i => pl[i]? := by funext i; simp
  rw [e2, hf]
  rfl
theorem Qt.buildA {T E n m : Nat} {parts : List (Nat × Operand)} {zs cs : List Value} (hu : X.P.underlying T = some (.array m E)) (hE : szB X.P E = some n) (hz : zeB X.P T = some (.agg zs.toArray))
    (hb : Bd (fun i => some (i * n, n)) l parts zs cs) : Qt X l L (.build T parts.toArray) (.agg cs.toArray) := by
  intro d U ps af g a w he hs
  have hf := hb.fill he
  have e : (parts.toArray.map fun (i, x) => (i, a.eval x)) = (parts.map fun (i, x) => (i, a.eval x)).toArray := by simp
  simp only [execOp, e, Instr.build, Sem.run_bind, run_zero hz, Result.andThen_ok, run_und hu, Value.cells, run_sizeOf hE, hf]
  rfl
/-- A row of single cells, written out. -/
theorem fill_enum (vs : List Value) : ∀ (pre : List Value) (post : List Value), (∀ v ∈ vs, v.oneCell' = true) → post.length = vs.length →
    Instr.fill (fun i => some (i * 1, 1)) (pre ++ post).toArray ((vs.zipIdx pre.length).map fun p => (p.2, p.1)) = some (pre ++ vs).toArray := by
  induction vs with
  | nil => intro pre post _ hl; have : post = [] := List.eq_nil_of_length_eq_zero (by simpa using hl); subst this; simp [Instr.fill]
  | cons v vs ih =>
    intro pre post h1 hl
    cases post with
    | nil => simp at hl
    | cons u post =>
      have hv : v.cells = #[v] := by have := h1 v (by simp); cases v <;> first | rfl | simp [Value.oneCell'] at this
      simp only [List.zipIdx_cons, List.map_cons, Instr.fill, Nat.mul_one, hv]
      rw [if_neg (by simp)]
      have e : (#[v].zipIdx.foldl (fun (cs : Array Value) (p : Value × Nat) => cs.setIfInBounds (pre.length + p.2) p.1) (pre ++ u :: post).toArray) = ((pre ++ [v]) ++ post).toArray := by
        simp [Array.zipIdx, List.setIfInBounds_toArray]
      have ih' := ih (pre ++ [v]) post (fun x hx => h1 x (by simp [hx])) (by simpa using hl)
      simp only [List.length_append, List.length_cons, List.length_nil, List.append_assoc, List.singleton_append, Nat.zero_add] at ih'
      have e' : (Array.foldl (fun cs (x : Value × Nat) => match x with | (c, j) => cs.setIfInBounds (pre.length + j) c) (pre ++ u :: post).toArray #[v].zipIdx) = ((pre ++ [v]) ++ post).toArray := by
        simp [Array.zipIdx]
      rw [e']
      simp only [List.append_assoc, List.singleton_append]
      have := ih'
      simpa using this
theorem Ld.bsl {T E : Nat} {U d : Nat} {ps : String} {af : Array Edge} {g : Option (Nat × Bool)} {parts : List (Nat × Operand)} {xs : List Operand} {vs : List Value} {n : Nat} {z : Value} {C : Tl → Bl → Prop} (hN : Nat.blt d X.N = true) (hu : X.P.underlying T = some (.slice E)) (hE : szB X.P E = some 1) (hz : zeB X.P E = some z) (hz1 : z.oneCell' = true)
    (hp : parts = (xs.zipIdx 0).map fun p => (p.2, p.1)) (hx : opvs l xs = some vs) (hl : vs.length = n) (hn : Nat.ble n 1000 = true) (h1 : ∀ v ∈ vs, v.oneCell' = true)
    (h : ∀ b, C ((d, .slice (some ⟨b, 0, none⟩) n n) :: l) ((some b, .cells vs E) :: L)) : Ld X Q ⟨some d, .buildSlice T n parts.toArray, U, ps, af, g⟩ l L C := by
  intro a w he hs K hK
  unfold Oper.wp
  have hn' : n ≤ 1000 := by simpa using hn
  have ev := he.evals hx
  have e : (parts.toArray.map fun (i, x) => (i, a.eval x)).toList = (vs.zipIdx 0).map fun p => (p.2, p.1) := by
    rw [hp, ← ev]
    simp [List.zipIdx_map]
  have hzc : z.cells = #[z] := by cases z <;> first | rfl | simp [Value.oneCell'] at hz1
  have hf := fill_enum vs [] (List.replicate n z) h1 (by simp [hl])
  have hrun : (Instr.buildSlice T n (parts.toArray.map fun (i, x) => (i, a.eval x))).run X.P w = .ok (.slice (some ⟨w.heap.size, 0, none⟩) n n) (w.alloc (Blk.cells vs E).toObj) := by
    have hrep : ((Array.range (n * 1)).map (fun x => (#[z] : Array Value)[x % 1]!)) = (List.replicate n z).toArray := by
      apply Array.ext
      · simp
      · intro i h1 h2; simp [Nat.mod_one]
    simp only [Instr.buildSlice, Sem.run_bind, run_und hu, Result.andThen_ok, run_sizeOf hE, Nat.mul_one]
    rw [if_neg (by omega)]
    by_cases h0 : n = 0
    · subst h0
      have hv : vs = [] := List.eq_nil_of_length_eq_zero hl
      subst hv
      simp only [e]
      have hr0 : Array.range 0 = #[] := by simp
      simp [Instr.fill, newRow, Blk.toObj, hr0]
    · simp only [if_neg h0, Sem.run_bind, run_zero hz, Result.andThen_ok, Sem.run_pure, hzc]
      simp only [Nat.mul_one] at hrep
      have hsz : (#[z] : Array Value).size = 1 := rfl
      simp only [hsz, e]
      rw [hrep]
      simp only [List.nil_append, List.length_nil, Nat.mul_one] at hf
      simp only [hf]
      simp [newRow, Blk.toObj]
  simp only [execOp, Sem.run_bind, hrun, Result.andThen_ok, Sem.run_pure, Oper.upon_value]
  exact hK _ _ (h w.heap.size) _ _ (he.put hN _) (hs.alloc (.cells vs E))
/-- The store of a number into a row of numbers. -/
theorem Ld.stn {x y : Operand} {T U : TypeId} {ps : String} {af : Array Edge} {g : Option (Nat × Bool)} {b o : Nat} {k : IntKind} {xs : List Int} {sp : List Value} {E : TypeId} {n : Int} {L' : Bl} {C : Tl → Bl → Prop} [hu : UpdC (some b) L (.cells (vI k xs ++ sp) E) (.cells (vI k (xs.set o n) ++ sp) E) L'] (hz : szB X.P T = some 1) (hx : opv l x = some (.pointer (some ⟨b, o, none⟩))) (hy : opv l y = some (.int k n))
    (ho : o < xs.length) (h : C l L') : Ld X Q ⟨none, .store T x y, U, ps, af, g⟩ l L C := by
  have e := set_vIs (k := k) (xs := xs) (sp := sp) (i := o) (n := n) ho
  refine Ld.sti (cs := vI k xs ++ sp) (E := E) hz hx hy rfl (by simp only [List.length_append, vI_length]; omega) ?_ h
  rw [e]
  exact hu.u
theorem Qt.ia1 {T E : TypeId} {x y : Operand} {A : Addr} {n c j : Nat} {k : IntKind} {i : Int} (hT : X.P.underlying T = some (.slice E)) (hz : szB X.P E = some 1) (hx : opv l x = some (.slice (some A) n c)) (hy : opv l y = some (.int k i))
    (h0 : 0 ≤ i) (h1 : i < n) (hj : i.toNat = j) : Qt X l L (.indexAddr T x y) (.pointer (some (A.add j))) := by
  have := Qt.ia (L := L) hT hz hx hy h0 h1 hj
  rwa [Nat.mul_one] at this
end
theorem VwF.at' {F : Fr} {A : Addr} {cs : List Value} (h : VwF F (some A) cs) {j : Nat} {v : Value} (hj : cs[j]? = some v) : F.cell (A.add j) = some v := by
  obtain ⟨ad, e, hc⟩ := h j v hj
  cases e
  exact hc
theorem VwF.some' {F : Fr} {A : Option Addr} {cs : List Value} (h : VwF F A cs) (hl : 0 < cs.length) : ∃ ad, A = some ad := by
  obtain ⟨ad, e, _⟩ := h 0 cs[0] (by simp [hl])
  exact ⟨ad, e⟩
theorem VwF.pre {F : Fr} {A : Option Addr} {cs ds : List Value} (h : VwF F A (cs ++ ds)) : VwF F A cs := by
  intro j v hj
  have hlt : j < cs.length := by
    rcases Nat.lt_or_ge j cs.length with h | h
    · exact h
    · simp [List.getElem?_eq_none h] at hj
  exact h j v (by rw [List.getElem?_append_left hlt]; exact hj)
theorem VwF.of {F : Fr} {b o : Nat} {cs ds : List Value} {E : TypeId} (hb : F.h b = some (Blk.cells ds E).toObj) (hc : ∀ j v, cs[j]? = some v → ds[o + j]? = some v) : VwF F (some ⟨b, o, none⟩) cs := by
  intro j v hj
  refine ⟨_, rfl, ?_⟩
  rw [add_addr]
  simp only [Fr.cell, hb, Blk.toObj]
  simpa using hc j v hj
theorem VwF.ofAll {F : Fr} {b : Nat} {cs : List Value} {E : TypeId} (hb : F.h b = some (Blk.cells cs E).toObj) : VwF F (some ⟨b, 0, none⟩) cs := VwF.of hb fun j v hj => by simpa using hj
theorem VwF.ofPre {F : Fr} {b : Nat} {cs ds : List Value} {E : TypeId} (hb : F.h b = some (Blk.cells (cs ++ ds) E).toObj) : VwF F (some ⟨b, 0, none⟩) cs := (VwF.ofAll hb).pre
theorem VwF.nil {F : Fr} {A : Option Addr} : VwF F A [] := by
  intro j v hj
  simp at hj
theorem VwF.drop {F : Fr} {b o n : Nat} {cs : List Value} (h : VwF F (some ⟨b, o, none⟩) cs) : VwF F (some ⟨b, o + n, none⟩) (cs.drop n) := by
  intro j v hj
  rw [List.getElem?_drop] at hj
  obtain ⟨ad, e, hc⟩ := h (n + j) v hj
  cases e
  refine ⟨_, rfl, ?_⟩
  rw [add_addr] at hc ⊢
  rw [Nat.add_assoc]; exact hc
theorem VwF.take {F : Fr} {A : Option Addr} {n : Nat} {cs : List Value} (h : VwF F A cs) : VwF F A (cs.take n) := by
  have e : cs = cs.take n ++ cs.drop n := by simp
  rw [e] at h
  exact h.pre
theorem VwF.mono {F F' : Fr} {A : Option Addr} {cs : List Value} {R : Bl} (h : VwF F A cs) (hF : Ext F F' R) : VwF F' A cs := by
  intro j v hj
  obtain ⟨ad, e, hc⟩ := h j v hj
  refine ⟨ad, e, ?_⟩
  unfold Fr.cell at hc ⊢
  cases hh : F.h (ad.add j).block with
  | none => simp [hh] at hc
  | some o => rw [hF.fr hh]; rw [hh] at hc; exact hc
end Go.Sx
