/-
  Structs and arrays compared; slices at whatever address; structs out of rows of the frame. Lemmas only; no condition.
-/
import Derived.Test.YtbeiciinppmekaaSx9
import Derived.Laws.StructEq
set_option linter.unusedSimpArgs false
set_option linter.unusedVariables false
namespace Go.Sx
open Go
inductive LeafEq (P : Program) : TypeId → Value → Value → Bool → Prop
  | int {T : TypeId} {k k' : IntKind} {a b : Int} (h : P.underlying T = some (.int k)) : LeafEq P T (.int k' a) (.int k' b) (decide (a = b))
  | bool {T : TypeId} {a b : Bool} (h : P.underlying T = some .bool) : LeafEq P T (.bool a) (.bool b) (a == b)
  | str {T : TypeId} {a b : ByteArray} (h : P.underlying T = some .string) : LeafEq P T (.string a) (.string b) (a == b)
theorem LeafEq.run {P : Program} {T : TypeId} {u v : Value} {r : Bool} (h : LeafEq P T u v r) (d : Nat) (w : World) : (Op.equalIn (d + 1) T u v).run P w = .ok r w := by
  cases h with
  | int h => simp [Op.equalIn, run_und h]; rfl
  | bool h => simp [Op.equalIn, run_und h]
  | str h => simp [Op.equalIn, run_und h]
/-- Elements i, i + 1, .. of two arrays. -/
inductive ArrEq (P : Program) (E : TypeId) (xs ys : List Value) : Nat → Nat → Bool → Prop
  | nil {i : Nat} : ArrEq P E xs ys 0 i true
  | cons {n i : Nat} {u v : Value} {r s : Bool} (hu : xs[i]? = some u) (hv : ys[i]? = some v) (h : LeafEq P E u v r) (hs : ArrEq P E xs ys n (i + 1) s) : ArrEq P E xs ys (n + 1) i (r && s)
theorem ArrEq.run {P : Program} {E : TypeId} {xs ys : List Value} (ha : aggB P E = some false) {n i : Nat} {s : Bool} (h : ArrEq P E xs ys n i s) (e d : Nat) (he : e = d + 1) (w : World) :
    (do let r ← forIn (List.range' i n) ((none, ()) : Option Bool × Unit) (fun i (_ : Option Bool × Unit) => do
          let a ← part E xs.toArray (i * 1)
          let b ← part E ys.toArray (i * 1)
          let c ← Op.equalIn e E a b
          if (!c) = true then pure (ForInStep.done (some false, ()))
          else pure (ForInStep.yield (none, ())))
        match r.fst with
        | some r => pure r
        | none => pure true : Sem Bool).run P w = .ok s w := by
  subst he
  induction h with
  | nil => simp
  | @cons n i u v r s hu hv h hs ih =>
    have e1 : (part E xs.toArray (i * 1)).run P w = .ok u w := by simp [part, run_isAgg ha, hu]
    have e2 : (part E ys.toArray (i * 1)).run P w = .ok v w := by simp [part, run_isAgg ha, hv]
    simp only [List.range'_succ, List.forIn_cons, bind_assoc, Sem.run_bind, e1, e2, Result.andThen_ok, h.run d w]
    cases r with
    | false => simp
    | true =>
      simp only [Bool.not_true, Bool.false_eq_true, if_false, Sem.run_pure, Result.andThen_ok, Bool.true_and]
      simpa only [Sem.run_bind] using ih
theorem run_eqArr {P : Program} {T E n : Nat} {xs ys : List Value} {s : Bool} (hT : P.underlying T = some (.array n E)) (hz : szB P E = some 1) (ha : aggB P E = some false) (h : ArrEq P E xs ys n 0 s) (d : Nat) (w : World) :
    (Op.equalIn (d + 2) T (.agg xs.toArray) (.agg ys.toArray)).run P w = .ok s w := by
  obtain ⟨e, he⟩ : ∃ e, e = d + 1 := ⟨_, rfl⟩
  rw [show d + 2 = e + 1 by omega]
  have := h.run ha e d he w
  simp only [Op.equalIn, Sem.run_bind, run_und hT, Result.andThen_ok, Sx.run_sizeOf hz, Std.Legacy.Range.forIn_eq_forIn_range', Std.Legacy.Range.size]
  simp only [Nat.sub_zero, Nat.add_sub_cancel, Nat.div_one, Sem.run_bind] at this ⊢
  rw [← this]
  congr
  funext a w'
  obtain ⟨x, u⟩ := a
  cases x <;> rfl
/-- Part of a struct's or an array's cells. -/
inductive FEq (P : Program) (xs ys : List Value) : TypeId → Nat → Bool → Prop
  | leaf {T o : Nat} {u v : Value} {r : Bool} (ha : aggB P T = some false) (hu : xs[o]? = some u) (hv : ys[o]? = some v) (h : LeafEq P T u v r) : FEq P xs ys T o r
  | arr {T E n o : Nat} {us vs : List Value} {r : Bool} (ht : aggB P T = some true) (hsz : szB P T = some n) (hu : cut xs o n = us) (hv : cut ys o n = vs) (hT : P.underlying T = some (.array n E)) (hz : szB P E = some 1) (ha : aggB P E = some false) (h : ArrEq P E us vs n 0 r) : FEq P xs ys T o r
inductive FsEq (P : Program) (xs ys : List Value) : List Field → Bool → Prop
  | nil : FsEq P xs ys [] true
  | cons {f : Field} {fs : List Field} {r s : Bool} (hn : f.name ≠ "_") (h : FEq P xs ys f.type f.offset r) (hs : FsEq P xs ys fs s) : FsEq P xs ys (f :: fs) (r && s)
theorem FEq.run {P : Program} {xs ys : List Value} {T o : Nat} {r : Bool} (h : FEq P xs ys T o r) (d : Nat) (w : World) : ∃ u v, (part T xs.toArray o).run P w = .ok u w ∧ (part T ys.toArray o).run P w = .ok v w ∧ (Op.equalIn (d + 2) T u v).run P w = .ok r w := by
  cases h with
  | leaf ha hu hv h => exact ⟨_, _, by simp [part, run_isAgg ha, hu], by simp [part, run_isAgg ha, hv], h.run (d + 1) w⟩
  | arr ht hsz hu hv hT hz ha h =>
    refine ⟨_, _, ?_, ?_, run_eqArr hT hz ha h d w⟩
    · simp [part, run_isAgg ht, Sx.run_sizeOf hsz, ← hu, cut]
    · simp [part, run_isAgg ht, Sx.run_sizeOf hsz, ← hv, cut]
theorem FsEq.run {P : Program} {xs ys : List Value} {fs : List Field} {r : Bool} (h : FsEq P xs ys fs r) (d : Nat) (w : World) : (Op.eqFields (d + 2) xs.toArray ys.toArray fs).run P w = .ok r w := by
  induction h with
  | nil => simp [Op.eqFields]
  | @cons f fs r s hn h hs ih =>
    obtain ⟨u, v, e1, e2, e3⟩ := h.run d w
    simp only [Op.eqFields, if_pos hn, Sem.run_bind, e1, e2, e3, Result.andThen_ok]
    cases r with
    | false => simp
    | true => simpa using ih
theorem run_eqS {P : Program} {T : Nat} {fs : Array Field} {xs ys : List Value} {r : Bool} (hT : P.underlying T = some (.struct fs)) (hp : P.stoodInHeld T = false) (h : FsEq P xs ys fs.toList r) (w : World) : (Op.equal T (.agg xs.toArray) (.agg ys.toArray)).run P w = .ok r w := by
  have hf : P.fieldsOf T = fs := by simp [Program.fieldsOf, hT]
  have := run_equalIn_struct (P := P) w 9999 T xs.toArray ys.toArray (by rw [hf]; exact hT) hp
  show (Op.equalIn (9999 + 1) T (.agg xs.toArray) (.agg ys.toArray)).run P w = .ok r w
  rw [this, hf]
  exact h.run 9997 w
section
variable {X : Cx} {l : Tl} {L : Bl}
theorem Qt.neA {T T2 : TypeId} {x y : Operand} {fs : Array Field} {us vs : List Value} {r : Bool} (hT : X.P.underlying T = some (.struct fs)) (hp : X.P.stoodInHeld T = false) (hg : X.P.eqGuardType X.P.depth T = false) (hx : opv l x = some (.agg us.toArray)) (hy : opv l y = some (.agg vs.toArray)) (h : FsEq X.P us vs fs.toList r) :
    Qt X l L (.binOp .neq T x y T2) (.bool (!r)) :=
  Qt.neG hx hy (by simp) (by simp) (by simp) (by simp) (fun w => run_eqGuard_agg w .neq T x y _ _ hg) (run_eqS hT hp h)
theorem Qt.iaa1 {T E : TypeId} {x y : Operand} {b o n j : Nat} {k : IntKind} {i : Int} (hT : X.P.underlying T = some (.array n E)) (hz : szB X.P E = some 1) (hx : opv l x = some (.pointer (some ⟨b, o, none⟩))) (hy : opv l y = some (.int k i))
    (h0 : 0 ≤ i) (h1 : i < n) (hj : i.toNat = j) : Qt X l L (.indexAddr T x y) (.pointer (some ⟨b, o + j, none⟩)) := by
  have := Qt.iaa (L := L) hT hz hx hy h0 h1 hj
  rwa [Nat.mul_one] at this
theorem Qt.s2a {T E : TypeId} {x : Operand} {A : Option Addr} {n m c : Nat} (hT : X.P.underlying T = some (.array n E)) (hx : opv l x = some (.slice A m c)) (hn : n ≤ m) : Qt X l L (.sliceToArrayPointer T x) (.pointer A) := by
  intro d U ps af g a w he hs
  have : ¬ m < n := by omega
  simp [execOp, he.eval hx, Instr.arrayAt, run_und hT, this]
end
theorem add_add (a : Addr) (m n : Nat) : (a.add m).add n = a.add (m + n) := by
  obtain ⟨b, o, s⟩ := a
  unfold Addr.add
  by_cases h1 : m = 0
  · subst h1; simp
  · by_cases h2 : n = 0
    · subst h2; simp
    · simp [h1, h2]; omega
theorem slAt_any {a : Addr} {c l sz : Nat} (h : l < c) : slAt (some a) c l sz = some (a.add (l * sz)) := by
  unfold slAt
  rw [if_neg (by omega)]
  rfl
/-- One struct out of a row of the frame. -/
theorem VwF.elem {α : Type} {F : Fr} {A : Addr} {f : α → List Value} {sz : Nat} (hf : ∀ x, (f x).length = sz) {xs : List α} (h : VwF F (some A) (xs.flatMap f)) {j : Nat} {x : α} (hj : xs[j]? = some x) (L : Bl) : Vw F L (A.add (j * sz)) (f x) := by
  intro w hs k v hk
  rw [add_add]
  refine hs.fcell (h.at' ?_)
  have hlt : k < sz := by
    rcases Nat.lt_or_ge k sz with h | h
    · exact h
    · rw [← hf x] at h; simp [List.getElem?_eq_none h] at hk
  have := nth_flatMap (sp := []) hf hj hlt
  rw [List.append_nil] at this
  rw [this]; exact hk
theorem VwF.dropA {F : Fr} {A : Addr} {n : Nat} {cs : List Value} (h : VwF F (some A) cs) : VwF F (some (A.add n)) (cs.drop n) := by
  intro j v hj
  rw [List.getElem?_drop] at hj
  refine ⟨_, rfl, ?_⟩
  rw [add_add]
  exact h.at' hj
end Go.Sx
