/-
  Places in slices and arrays; operations that write or make memory; calls. Lemmas only; no condition.
-/
import Derived.Test.YtbeiciinppmekaaSx3
import Derived.Laws.CopyOwn
set_option linter.unusedSimpArgs false
set_option linter.unusedVariables false
namespace Go.Sx
open Go
def Fr.cell (F : Fr) (a : Addr) : Option Value :=
  match F.h a.block with
  | some (.cells c _ _) => if a.spot.isSome then none else c[a.off]?
  | _ => none
theorem St.fcell {F : Fr} {w : World} {L : Bl} (h : St F w L) {a : Addr} {v : Value} (hc : F.cell a = some v) : w.cell? a = some v := by
  unfold Fr.cell at hc
  cases hf : F.h a.block with
  | none => simp [hf] at hc
  | some o =>
    have := h.fr _ _ hf
    simp only [World.cell?, this]
    rw [hf] at hc
    exact hc
/-- The cells of a slice's address, off the frame. -/
def VwF (F : Fr) (a : Option Addr) (cs : List Value) : Prop := ∀ j v, cs[j]? = some v → ∃ ad, a = some ad ∧ F.cell (ad.add j) = some v
/-- The cells at an address, off what is known. -/
def Vw (F : Fr) (L : Bl) (a : Addr) (cs : List Value) : Prop := ∀ w, St F w L → ∀ j v, cs[j]? = some v → w.cell? (a.add j) = some v
theorem VwF.vw {F : Fr} {L : Bl} {a : Addr} {cs : List Value} (h : VwF F (some a) cs) : Vw F L a cs := by
  intro w hs j v hj
  obtain ⟨ad, e, hc⟩ := h j v hj
  cases e
  exact hs.fcell hc
theorem Vw.blk {F : Fr} {L : Bl} {b o : Nat} {cs ds : List Value} {E : TypeId} (hb : Rd F L b (.cells ds E)) (hc : ∀ j v, cs[j]? = some v → ds[o + j]? = some v) : Vw F L ⟨b, o, none⟩ cs := by
  intro w hs j v hj
  rw [add_addr]
  exact cell_of (hs.rd hb) (hc j v hj)
theorem Vw.all {F : Fr} {L : Bl} {b : Nat} {cs : List Value} {E : TypeId} (hb : Rd F L b (.cells cs E)) : Vw F L ⟨b, 0, none⟩ cs :=
  Vw.blk hb fun j v hj => by simpa using hj
theorem Vw.pre {F : Fr} {L : Bl} {b : Nat} {cs ds : List Value} {E : TypeId} (hb : Rd F L b (.cells (cs ++ ds) E)) : Vw F L ⟨b, 0, none⟩ cs :=
  Vw.blk hb fun j v hj => by
    have : j < cs.length := by
      rcases Nat.lt_or_ge j cs.length with h | h
      · exact h
      · simp [List.getElem?_eq_none h] at hj
    simp only [Nat.zero_add]
    rw [List.getElem?_append_left this]
    exact hj
theorem Vw.nil {F : Fr} {L : Bl} {a : Addr} : Vw F L a [] := by
  intro w hs j v hj
  simp at hj
def slAt (a : Option Addr) (c l sz : Nat) : Option Addr := if c = l then a else a.map (·.add (l * sz))
theorem slAt_zero (a : Option Addr) (c sz : Nat) : slAt a c 0 sz = a := by
  unfold slAt
  split
  · rfl
  · cases a <;> simp [Addr.add]
theorem slAt_some {b o c l sz : Nat} (h : l < c) : slAt (some ⟨b, o, none⟩) c l sz = some ⟨b, o + l * sz, none⟩ := by
  unfold slAt
  rw [if_neg (by omega)]
  simp [add_addr]
section
variable {X : Cx} {l : Tl} {L : Bl}
theorem Qt.ldF {T : TypeId} {x : Operand} {A : Addr} {v : Value} (hT : aggB X.P T = some false) (hx : opv l x = some (.pointer (some A))) (hc : X.F.cell A = some v) : Qt X l L (.load T x) v := by
  intro d T ps af g a w he hs
  simp only [execOp, he.eval hx, Instr.loadAt, Instr.sureAddr]
  simp [run_loadVar1 hT (hs.fcell hc)]
theorem Qt.ldV {T : TypeId} {x : Operand} {A : Addr} {vs : List Value} (hT : aggB X.P T = some true) (hx : opv l x = some (.pointer (some A))) (hz : szB X.P T = some vs.length) (hc : Vw X.F L A vs) : Qt X l L (.load T x) (.agg vs.toArray) := by
  intro d T ps af g a w he hs
  simp only [execOp, he.eval hx, Instr.loadAt, Instr.sureAddr]
  simp [run_loadVarA hT hz (hc w hs)]
/-- The place of an element of a slice. -/
theorem Qt.ia {T E : TypeId} {x y : Operand} {A : Addr} {n c sz j : Nat} {k : IntKind} {i : Int} (hT : X.P.underlying T = some (.slice E)) (hz : szB X.P E = some sz) (hx : opv l x = some (.slice (some A) n c)) (hy : opv l y = some (.int k i))
    (h0 : 0 ≤ i) (h1 : i < n) (hj : i.toNat = j) : Qt X l L (.indexAddr T x y) (.pointer (some (A.add (j * sz)))) := by
  intro d T ps af g a w he hs
  subst hj
  simp [execOp, he.eval hx, he.eval hy, Instr.indexAt, asIntOf, run_und hT, run_sizeOf hz, h0, h1]
theorem Qt.iab {T E : TypeId} {x y : Operand} {b o n c sz j : Nat} {k : IntKind} {i : Int} (hT : X.P.underlying T = some (.slice E)) (hz : szB X.P E = some sz) (hx : opv l x = some (.slice (some ⟨b, o, none⟩) n c)) (hy : opv l y = some (.int k i))
    (h0 : 0 ≤ i) (h1 : i < n) (hj : i.toNat = j) : Qt X l L (.indexAddr T x y) (.pointer (some ⟨b, o + j * sz, none⟩)) := by
  have := Qt.ia (L := L) hT hz hx hy h0 h1 hj
  rwa [add_addr] at this
theorem Qt.iab0 {T E : TypeId} {x y : Operand} {b n c sz j : Nat} {k : IntKind} {i : Int} (hT : X.P.underlying T = some (.slice E)) (hz : szB X.P E = some sz) (hx : opv l x = some (.slice (some ⟨b, 0, none⟩) n c)) (hy : opv l y = some (.int k i))
    (h0 : 0 ≤ i) (h1 : i < n) (hj : i.toNat = j) : Qt X l L (.indexAddr T x y) (.pointer (some ⟨b, j * sz, none⟩)) := by
  have := Qt.iab (L := L) hT hz hx hy h0 h1 hj
  rwa [Nat.zero_add] at this
theorem Qt.iab1 {T E : TypeId} {x y : Operand} {b o n c j : Nat} {k : IntKind} {i : Int} (hT : X.P.underlying T = some (.slice E)) (hz : szB X.P E = some 1) (hx : opv l x = some (.slice (some ⟨b, o, none⟩) n c)) (hy : opv l y = some (.int k i))
    (h0 : 0 ≤ i) (h1 : i < n) (hj : i.toNat = j) : Qt X l L (.indexAddr T x y) (.pointer (some ⟨b, o + j, none⟩)) := by
  have := Qt.iab (L := L) hT hz hx hy h0 h1 hj
  rwa [Nat.mul_one] at this
theorem Qt.iab01 {T E : TypeId} {x y : Operand} {b n c j : Nat} {k : IntKind} {i : Int} (hT : X.P.underlying T = some (.slice E)) (hz : szB X.P E = some 1) (hx : opv l x = some (.slice (some ⟨b, 0, none⟩) n c)) (hy : opv l y = some (.int k i))
    (h0 : 0 ≤ i) (h1 : i < n) (hj : i.toNat = j) : Qt X l L (.indexAddr T x y) (.pointer (some ⟨b, j, none⟩)) := by
  have := Qt.iab1 (L := L) hT hz hx hy h0 h1 hj
  rwa [Nat.zero_add] at this
/-- The place of an element of an array. -/
theorem Qt.iaa {T E : TypeId} {x y : Operand} {b o n sz j : Nat} {k : IntKind} {i : Int} (hT : X.P.underlying T = some (.array n E)) (hz : szB X.P E = some sz) (hx : opv l x = some (.pointer (some ⟨b, o, none⟩))) (hy : opv l y = some (.int k i))
    (h0 : 0 ≤ i) (h1 : i < n) (hj : i.toNat = j) : Qt X l L (.indexAddr T x y) (.pointer (some ⟨b, o + j * sz, none⟩)) := by
  intro d T ps af g a w he hs
  subst hj
  simp [execOp, he.eval hx, he.eval hy, Instr.indexAt, Instr.sureAddr, asIntOf, run_und hT, run_sizeOf hz, h0, h1, add_addr]
theorem Qt.iaa01 {T E : TypeId} {x y : Operand} {b n j : Nat} {k : IntKind} {i : Int} (hT : X.P.underlying T = some (.array n E)) (hz : szB X.P E = some 1) (hx : opv l x = some (.pointer (some ⟨b, 0, none⟩))) (hy : opv l y = some (.int k i))
    (h0 : 0 ≤ i) (h1 : i < n) (hj : i.toNat = j) : Qt X l L (.indexAddr T x y) (.pointer (some ⟨b, j, none⟩)) := by
  have := Qt.iaa (L := L) hT hz hx hy h0 h1 hj
  rwa [Nat.mul_one, Nat.zero_add] at this
theorem run_sliceB {P : Program} {w : World} {k : IntKind} {i : Int} {y j : Nat} {code : BoundsCode} (h0 : 0 ≤ i) (h1 : i ≤ y) (hj : i.toNat = j) : (Instr.sliceBound (.int k i) y code).run P w = .ok j w := by
  subst hj
  simp [Instr.sliceBound, asIntOf, h0, h1]
theorem Qt.sl {T E : TypeId} {x y z : Operand} {A : Option Addr} {n c sz i j : Nat} {k k2 : IntKind} {p q : Int} (hT : X.P.underlying T = some (.slice E)) (hz : szB X.P E = some sz) (hx : opv l x = some (.slice A n c)) (hy : opv l y = some (.int k p)) (hq : opv l z = some (.int k2 q))
    (h0 : 0 ≤ p) (h1 : p ≤ q) (h2 : q ≤ c) (hi : p.toNat = i) (hj : q.toNat = j) : Qt X l L (.slice T x (some y) (some z) none) (.slice (slAt A c i sz) (j - i) (c - i)) := by
  intro d T ps af g a w he hs
  have hA := run_sliceB (P := X.P) (w := w) (k := k2) (i := q) (y := c) (code := BoundsCode.sliceAcap) (by omega) h2 hj
  have hB := run_sliceB (P := X.P) (w := w) (k := k) (i := p) (y := j) (code := BoundsCode.sliceB) h0 (by omega) hi
  simp [execOp, he.eval hx, he.eval hy, he.eval hq, Instr.sliceAt, Instr.slice, Instr.sliceBounds, run_und hT, hA, hB, run_sizeOf hz, slAt]
theorem Qt.slL {T E : TypeId} {x y : Operand} {A : Option Addr} {n c sz i : Nat} {k : IntKind} {p : Int} (hT : X.P.underlying T = some (.slice E)) (hz : szB X.P E = some sz) (hx : opv l x = some (.slice A n c)) (hy : opv l y = some (.int k p))
    (h0 : 0 ≤ p) (h1 : p ≤ n) (hi : p.toNat = i) : Qt X l L (.slice T x (some y) none none) (.slice (slAt A c i sz) (n - i) (c - i)) := by
  intro d T ps af g a w he hs
  have hB := run_sliceB (P := X.P) (w := w) (k := k) (i := p) (y := n) (code := BoundsCode.sliceB) h0 h1 hi
  simp [execOp, he.eval hx, he.eval hy, Instr.sliceAt, Instr.slice, Instr.sliceBounds, run_und hT, hB, run_sizeOf hz, slAt]
theorem Qt.slH {T E : TypeId} {x z : Operand} {A : Option Addr} {n c sz j : Nat} {k2 : IntKind} {q : Int} (hT : X.P.underlying T = some (.slice E)) (hz : szB X.P E = some sz) (hx : opv l x = some (.slice A n c)) (hq : opv l z = some (.int k2 q))
    (h0 : 0 ≤ q) (h2 : q ≤ c) (hj : q.toNat = j) : Qt X l L (.slice T x none (some z) none) (.slice A j c) := by
  intro d T ps af g a w he hs
  have hA := run_sliceB (P := X.P) (w := w) (k := k2) (i := q) (y := c) (code := BoundsCode.sliceAcap) h0 h2 hj
  have := slAt_zero A c sz
  unfold slAt at this
  simp [execOp, he.eval hx, he.eval hq, Instr.sliceAt, Instr.slice, Instr.sliceBounds, run_und hT, hA, run_sizeOf hz]
  intro hh
  rw [if_neg hh] at this
  simpa using this
end
theorem setRow_facts (w : World) (b : Nat) (cs : Array Value) : (w.setRow b cs).os = w.os ∧ (w.setRow b cs).tape = w.tape ∧ (w.setRow b cs).output = w.output ∧ (w.setRow b cs).heap.size = w.heap.size := by
  refine ⟨rfl, rfl, rfl, ?_⟩
  simp [World.setRow]
theorem St.setRow {F : Fr} {w : World} {L L' : Bl} (h : St F w L) {b : Nat} {cs cs' : List Value} {E : TypeId} (hu : Upd (some b) (.cells cs E) (.cells cs' E) L L') : St F (w.setRow b cs'.toArray) L' := by
  have hb := h.own b _ hu.inL
  obtain ⟨h1, h2, h3, h4⟩ := setRow_facts w b cs'.toArray
  refine ⟨fun k K hk => ?_, by rw [hu.fm]; exact h.nodup, fun k o ho => ?_, fun k K hk => ?_, h1.trans h.os, h2.trans h.tape, h3.trans h.output, by rw [h4]; exact h.size⟩
  · rcases hu.mem h.nodup hk with ⟨rfl, rfl⟩ | ⟨hne, hm⟩
    · exact setRow_heap w k _ _ E (0, 0) hb
    · rw [setRow_other w b k _ hne]; exact h.own k K hm
  · have hne : k ≠ b := fun e => by
      subst e
      have := h.apart k _ hu.inL
      rw [this] at ho; cases ho
    rw [setRow_other w b k _ hne]; exact h.fr k o ho
  · rcases hu.mem h.nodup hk with ⟨rfl, rfl⟩ | ⟨_, hm⟩
    · exact h.apart k _ hu.inL
    · exact h.apart k K hm
theorem St.alloc {F : Fr} {w : World} {L : Bl} (h : St F w L) (B : Blk) : St F (w.alloc B.toObj) ((some w.heap.size, B) :: L) := by
  have hn : w.heap[w.heap.size]? = none := by simp
  have hsz : (w.alloc B.toObj).heap = w.heap.push B.toObj := rfl
  refine ⟨fun k K hk => ?_, ?_, fun k o ho => ?_, fun k K hk => ?_, h.os, h.tape, h.output, by rw [hsz]; simp; have := h.size; omega⟩
  · rw [hsz]
    rw [List.mem_cons] at hk
    rcases hk with hk | hk
    · simp at hk; rw [hk.1, hk.2]; simp
    · have := h.own k K hk
      have hlt : k < w.heap.size := (Array.getElem?_eq_some_iff.1 this).1
      rw [Array.getElem?_push, if_neg (by omega)]; exact this
  · simp only [List.filterMap_cons]
    refine List.nodup_cons.2 ⟨fun hm => ?_, h.nodup⟩
    obtain ⟨⟨_, K⟩, hm, rfl⟩ := List.mem_filterMap.1 hm
    have := h.own _ K hm
    rw [hn] at this; cases this
  · rw [hsz]
    have := h.fr k o ho
    have hlt : k < w.heap.size := (Array.getElem?_eq_some_iff.1 this).1
    rw [Array.getElem?_push, if_neg (by omega)]; exact this
  · rw [List.mem_cons] at hk
    rcases hk with hk | hk
    · simp at hk
      rw [hk.1]
      cases hf : F.h w.heap.size with
      | none => rfl
      | some o => have := h.fr _ _ hf; rw [hn] at this; cases this
    · exact h.apart k K hk
theorem St.drew {F : Fr} {w : World} {L : Bl} (h : St F w L) : St F w.drew L := ⟨h.own, h.nodup, h.fr, h.apart, h.os, h.tape, h.output, h.size⟩
/-- cs with v at place o. -/
inductive SetAt : List Value → Nat → Value → List Value → Prop
  | z (x : Value) (cs : List Value) (v : Value) : SetAt (x :: cs) 0 v (v :: cs)
  | s {cs cs' : List Value} {o : Nat} {v : Value} (x : Value) (h : SetAt cs o v cs') : SetAt (x :: cs) (o + 1) v (x :: cs')
theorem SetAt.spl {cs cs' : List Value} {o : Nat} {v : Value} (h : SetAt cs o v cs') : cs.take o ++ [v] ++ cs.drop (o + 1) = cs' ∧ o + 1 ≤ cs.length := by
  induction h with
  | z x cs v => simp
  | s x h ih => simp only [List.take_succ_cons, List.cons_append, List.drop_succ_cons, ih.1, List.length_cons, true_and]; omega
/-- cs with vs from place o on. -/
inductive SetM : List Value → Nat → List Value → List Value → Prop
  | nil (cs : List Value) (o : Nat) : SetM cs o [] cs
  | cons {cs c1 c2 : List Value} {o : Nat} {v : Value} {vs : List Value} (h : SetAt cs o v c1) (hs : SetM c1 (o + 1) vs c2) : SetM cs o (v :: vs) c2
theorem run_storeVar1 {P : Program} {w : World} {T b o : Nat} {cs : List Value} {E : TypeId} {v : Value} (hz : szB P T = some 1) (hv : v.oneCell' = true) (hb : w.heap[b]? = some (Blk.cells cs E).toObj) (ho : o + 1 ≤ cs.length) :
    (storeVar T ⟨b, o, none⟩ v).run P w = .ok () (w.setRow b (cs.take o ++ [v] ++ cs.drop (o + 1)).toArray) := by
  have hc : v.cells = #[v] := by cases v <;> first | rfl | simp [Value.oneCell'] at hv
  have := run_storeCells_at P b o E [v] 0 cs.toArray w hb (by simpa using ho) (by simpa using hv)
  simp only [storeVar, Sem.run_bind, run_sizeOf hz, hc]
  simpa using this
theorem run_storeVarA {P : Program} {w : World} {T b o : Nat} {cs vs : List Value} {E : TypeId} (hz : szB P T = some vs.length) (hv : ∀ v ∈ vs, v.oneCell' = true) (hb : w.heap[b]? = some (Blk.cells cs E).toObj) (ho : o + vs.length ≤ cs.length) :
    (storeVar T ⟨b, o, none⟩ (.agg vs.toArray)).run P w = .ok () (w.setRow b (cs.take o ++ vs ++ cs.drop (o + vs.length)).toArray) := by
  have := run_storeCells_at P b o E vs 0 cs.toArray w hb (by simpa using ho) hv
  simp only [storeVar, Sem.run_bind, run_sizeOf hz, Value.cells]
  simpa using this
section
variable {X : Cx} {l : Tl} {L : Bl} {Q : Xt}
theorem Ld.st {x y : Operand} {T U : TypeId} {ps : String} {af : Array Edge} {g : Option (Nat × Bool)} {b o : Nat} {cs cs' : List Value} {E : TypeId} {v : Value} {L' : Bl} {C : Tl → Bl → Prop} (hz : szB X.P T = some 1) (hx : opv l x = some (.pointer (some ⟨b, o, none⟩))) (hy : opv l y = some v)
    (hv : v.oneCell' = true) (hs' : SetAt cs o v cs') (hu : Upd (some b) (.cells cs E) (.cells cs' E) L L') (h : C l L') : Ld X Q ⟨none, .store T x y, U, ps, af, g⟩ l L C := by
  intro a w he hs K hK
  obtain ⟨e1, e2⟩ := hs'.spl
  have := run_storeVar1 (P := X.P) hz hv (hs.own b _ hu.inL) e2
  rw [e1] at this
  unfold Oper.wp
  simp only [execOp, he.eval hx, he.eval hy, Instr.storeAt, Instr.sureAddr, Sem.run_bind, Sem.run_pure, Result.andThen_ok, this]
  exact hK _ _ h _ _ he (hs.setRow hu)
/-- The store of one cell at a place that is computed. -/
theorem Ld.sti {x y : Operand} {T U : TypeId} {ps : String} {af : Array Edge} {g : Option (Nat × Bool)} {b o : Nat} {cs : List Value} {E : TypeId} {v : Value} {L' : Bl} {C : Tl → Bl → Prop} (hz : szB X.P T = some 1) (hx : opv l x = some (.pointer (some ⟨b, o, none⟩))) (hy : opv l y = some v)
    (hv : v.oneCell' = true) (ho : o < cs.length) (hu : Upd (some b) (.cells cs E) (.cells (cs.set o v) E) L L') (h : C l L') : Ld X Q ⟨none, .store T x y, U, ps, af, g⟩ l L C := by
  intro a w he hs K hK
  have := run_storeVar1 (P := X.P) hz hv (hs.own b _ hu.inL) ho
  rw [show cs.take o ++ [v] ++ cs.drop (o + 1) = cs.set o v by rw [List.set_eq_take_append_cons_drop, if_pos ho]; simp] at this
  unfold Oper.wp
  simp only [execOp, he.eval hx, he.eval hy, Instr.storeAt, Instr.sureAddr, Sem.run_bind, Sem.run_pure, Result.andThen_ok, this]
  exact hK _ _ h _ _ he (hs.setRow hu)
/-- The store of a struct or array into the whole of a block. -/
theorem Ld.stW {x y : Operand} {T U : TypeId} {ps : String} {af : Array Edge} {g : Option (Nat × Bool)} {b : Nat} {cs vs : List Value} {E : TypeId} {L' : Bl} {C : Tl → Bl → Prop} (hz : szB X.P T = some vs.length) (hx : opv l x = some (.pointer (some ⟨b, 0, none⟩))) (hy : opv l y = some (.agg vs.toArray))
    (hv : ∀ v ∈ vs, v.oneCell' = true) (hl : cs.length = vs.length) (hu : Upd (some b) (.cells cs E) (.cells vs E) L L') (h : C l L') : Ld X Q ⟨none, .store T x y, U, ps, af, g⟩ l L C := by
  intro a w he hs K hK
  have := run_storeVarA (P := X.P) (o := 0) hz hv (hs.own b _ hu.inL) (by omega)
  rw [show cs.take 0 ++ vs ++ cs.drop (0 + vs.length) = vs by simp [hl]] at this
  unfold Oper.wp
  simp only [execOp, he.eval hx, he.eval hy, Instr.storeAt, Instr.sureAddr, Sem.run_bind, Sem.run_pure, Result.andThen_ok, this]
  exact hK _ _ h _ _ he (hs.setRow hu)
/-- The store of a struct or array into a part of a block. -/
theorem Ld.stA {x y : Operand} {T U : TypeId} {ps : String} {af : Array Edge} {g : Option (Nat × Bool)} {b o : Nat} {cs cs' vs : List Value} {E : TypeId} {L' : Bl} {C : Tl → Bl → Prop} (hz : szB X.P T = some vs.length) (hx : opv l x = some (.pointer (some ⟨b, o, none⟩))) (hy : opv l y = some (.agg vs.toArray))
    (hv : ∀ v ∈ vs, v.oneCell' = true) (hl : o + vs.length ≤ cs.length) (hc : cs.take o ++ vs ++ cs.drop (o + vs.length) = cs') (hu : Upd (some b) (.cells cs E) (.cells cs' E) L L') (h : C l L') : Ld X Q ⟨none, .store T x y, U, ps, af, g⟩ l L C := by
  intro a w he hs K hK
  have := run_storeVarA (P := X.P) (o := o) hz hv (hs.own b _ hu.inL) hl
  rw [hc] at this
  unfold Oper.wp
  simp only [execOp, he.eval hx, he.eval hy, Instr.storeAt, Instr.sureAddr, Sem.run_bind, Sem.run_pure, Result.andThen_ok, this]
  exact hK _ _ h _ _ he (hs.setRow hu)
/-- The cells of a value. -/
inductive Cl : Value → List Value → Prop
  | one {v : Value} (h : v.oneCell' = true) : Cl v [v]
  | agg {vs : List Value} : Cl (.agg vs.toArray) vs
theorem Cl.cells {v : Value} {vs : List Value} (h : Cl v vs) : v.cells = vs.toArray := by
  cases h with
  | one h => cases v <;> first | rfl | simp [Value.oneCell'] at h
  | agg => rfl
theorem Ld.box {x : Operand} {T U : TypeId} {d : Nat} {ps : String} {af : Array Edge} {g : Option (Nat × Bool)} {v : Value} {vs : List Value} {C : Tl → Bl → Prop} (hN : Nat.blt d X.N = true) (hx : opv l x = some v) (hc : Cl v vs)
    (h : ∀ b, C ((d, .pointer (some ⟨b, 0, none⟩)) :: l) ((some b, .cells vs T) :: L)) : Ld X Q ⟨some d, .box T x, U, ps, af, g⟩ l L C := by
  intro a w he hs K hK
  unfold Oper.wp
  simp only [execOp, he.eval hx, Instr.box, newVar, newRow, hc.cells, Sem.run_bind, Sem.run_pure, Result.andThen_ok, run_newObj, Oper.upon_value]
  exact hK _ _ (h w.heap.size) _ _ (he.put hN _) (hs.alloc (.cells vs T))
theorem Ld.alloc {T U : TypeId} {d : Nat} {ps : String} {af : Array Edge} {g : Option (Nat × Bool)} {v : Value} {vs : List Value} {C : Tl → Bl → Prop} (hN : Nat.blt d X.N = true) (hz : zeB X.P T = some v) (hc : Cl v vs)
    (h : ∀ b, C ((d, .pointer (some ⟨b, 0, none⟩)) :: l) ((some b, .cells vs T) :: L)) : Ld X Q ⟨some d, .alloc T, U, ps, af, g⟩ l L C := by
  intro a w he hs K hK
  unfold Oper.wp
  simp only [execOp, Instr.alloc, newVar, newRow, run_zero hz, hc.cells, Sem.run_bind, Sem.run_pure, Result.andThen_ok, run_newObj, Oper.upon_value]
  exact hK _ _ (h w.heap.size) _ _ (he.put hN _) (hs.alloc (.cells vs T))
end
def calB (P : Program) (f : FuncId) : Bool := match P.funcs[f]? with | none => false | some fn => !(fn.name == "runtime.NumGoroutine") && fn.body.isSome
theorem run_callFunc {P : Program} {w : World} {f : FuncId} {args : Array Value} (h : calB P f = true) : (callFunc f args).run P w = .ok (.enter f args) w := by
  unfold calB at h
  cases hf : P.funcs[f]? with
  | none => simp [hf] at h
  | some fn =>
    simp only [hf, Bool.and_eq_true, Bool.not_eq_true'] at h
    obtain ⟨h1, h2⟩ := h
    have h3 : fn.body.isNone = false := by cases hb : fn.body <;> simp_all
    have h1' : ¬ fn.name = "runtime.NumGoroutine" := by simpa using h1
    simp [callFunc, hf, h1', h3]
    intro hb
    simp [hb] at h2
section
variable {X : Cx} {l : Tl} {L : Bl} {Q : Xt}
theorem Ld.callv {fo : Operand} {args : List Operand} {ts : Array TypeId} {U : TypeId} {d : Nat} {ps : String} {af : Array Edge} {g : Option (Nat × Bool)} {f : FuncId} {first cap vs : List Value} {C : Tl → Bl → Prop} {S : Type} {Φ : S → Prop} {v : S → Value} {Lp : S → Bl} {A R : Bl}
    (hcal : calB X.P f = true) (hN : Nat.blt d X.N = true) (hf : opv l fo = some (.func (.func f) first.toArray cap.toArray)) (ha : opvs l args = some vs) (ht : Tks A L R)
    (hspec : ∀ F', Ext X.F F' R → Ct X.P F' f (first ++ vs ++ cap) A Φ v Lp) (h : ∀ x, Φ x → C ((d, v x) :: l) (Lp x ++ R)) : Ld X Q ⟨some d, .call ⟨.value fo, args.toArray, ts⟩, U, ps, af, g⟩ l L C := by
  intro a w he hs K hK
  have hs1 := hs.perm ht.perm
  unfold Oper.wp
  have e1 : (args.toArray.map a.eval) = vs.toArray := by simp [he.evals ha]
  simp only [execOp, resolve, e1, he.eval hf, Deferred.ofValue, Sem.run_bind, Sem.run_pure, Result.andThen_ok, invoke, List.append_toArray, run_callFunc hcal, Oper.upon_enter]
  refine (hspec _ (Fr.plus_ext hs1) w hs1.plus).mono ?_
  rintro e w' ⟨x, hx, rfl, hs'⟩
  exact hK _ _ (h x hx) _ _ (he.put hN _) (hs1.minus hs')
theorem Ld.call {args : List Operand} {ts : Array TypeId} {U : TypeId} {d : Nat} {ps : String} {af : Array Edge} {g : Option (Nat × Bool)} {f : FuncId} {vs : List Value} {C : Tl → Bl → Prop} {S : Type} {Φ : S → Prop} {v : S → Value} {Lp : S → Bl} {A R : Bl}
    (hcal : calB X.P f = true) (hN : Nat.blt d X.N = true) (ha : opvs l args = some vs) (ht : Tks A L R)
    (hspec : ∀ F', Ext X.F F' R → Ct X.P F' f vs A Φ v Lp) (h : ∀ x, Φ x → C ((d, v x) :: l) (Lp x ++ R)) : Ld X Q ⟨some d, .call ⟨.value (.func f), args.toArray, ts⟩, U, ps, af, g⟩ l L C := by
  refine Ld.callv (first := []) (cap := []) hcal hN rfl ha ht (fun F' hF => ?_) h
  have := hspec F' hF
  simpa using this
end
inductive Res (X : Cx) (l : Tl) (L : Bl) : List ResultVar → List Value → Prop
  | nil : Res X l L [] []
  | tmp {t : Nat} {u : Value} {rs : List ResultVar} {us : List Value} (h : lk l t = some u) (hr : Res X l L rs us) : Res X l L (.tmp t :: rs) (u :: us)
  | cellW {a T b : Nat} {cs : List Value} {E : TypeId} {rs : List ResultVar} {us : List Value} (ha : lk l a = some (.pointer (some ⟨b, 0, none⟩))) (hT : aggB X.P T = some true) (hz : szB X.P T = some cs.length) (hb : Rd X.F L b (.cells cs E))
      (hr : Res X l L rs us) : Res X l L (.cell a T :: rs) (.agg cs.toArray :: us)
  | cell1 {a T b : Nat} {u : Value} {E : TypeId} {rs : List ResultVar} {us : List Value} (ha : lk l a = some (.pointer (some ⟨b, 0, none⟩))) (hT : aggB X.P T = some false) (hb : Rd X.F L b (.cells [u] E))
      (hr : Res X l L rs us) : Res X l L (.cell a T :: rs) (u :: us)
def tup : List Value → Value
  | [v] => v
  | vs => .tuple vs.toArray
def resOne (tmps : Array Value) : ResultVar → Sem Value
  | .tmp t => pure (tmps.getD t undef)
  | .cell a t => do loadVar t (← asAddr (tmps.getD a undef))
theorem Res.run {X : Cx} {l : Tl} {L : Bl} {rs : List ResultVar} {us : List Value} (h : Res X l L rs us) {a : Act} {w : World} (he : Env X.N a l) (hs : St X.F w L) : (rs.mapM (resOne a.tmps)).run X.P w = .ok us w := by
  induction h with
  | nil => rfl
  | @tmp t u rs us h hr ih => simp [List.mapM_cons, resOne, he.get _ _ h, ih]
  | @cellW a' T b cs E rs us ha hT hz hb hr ih =>
    have h1 := run_loadVarA (P := X.P) (w := w) (a := ⟨b, 0, none⟩) hT hz (fun j v hj => by rw [add_addr, Nat.zero_add]; exact cell_of (hs.rd hb) hj)
    simp [List.mapM_cons, resOne, he.get _ _ ha, ih, asAddr, h1]
  | @cell1 a' T b u E rs us ha hT hb hr ih =>
    have h1 := run_loadVar1 (P := X.P) (w := w) (a := ⟨b, 0, none⟩) hT (cell_of (hs.rd hb) (i := 0) (v := u) rfl)
    simp [List.mapM_cons, resOne, he.get _ _ ha, ih, asAddr, h1]
theorem run_results {P : Program} {fn : Func} {rs : List ResultVar} {us : List Value} {tmps : Array Value} {w : World} (hr : fn.results = rs.toArray) (h : (rs.mapM (resOne tmps)).run P w = .ok us w) : (results fn tmps).run P w = .ok (tup us) w := by
  have e : fn.results.mapM (resOne tmps) = List.toArray <$> rs.mapM (resOne tmps) := by rw [hr]; simp
  have e2 : results fn tmps = (do let vs ← fn.results.mapM (resOne tmps); pure (if h : vs.size = 1 then vs[0] else .tuple vs)) := rfl
  rw [e2, e]
  simp only [Sem.run_bind, Sem.run_map, h, Result.andThen_ok, Sem.run_pure]
  match us with
  | [] => rfl
  | [v] => rfl
  | u :: v :: r => simp [tup]
theorem GK.ret {X : Cx} {l : Tl} {L : Bl} {fn : Func} {rs : List ResultVar} {us : List Value} {S : Type} {Φ : S → Prop} {v : S → Value} {Lp : S → Bl} {R : Bl} (hr : fn.results = rs.toArray) (hres : Res X l L rs us) (x : S) (hx : Φ x) (hv : tup us = v x) (ht : Tks (Lp x) L R) :
    GK X (bodyPost X.P fn (Left X.F Φ v Lp) .ret) l L := by
  intro a w he hs
  exact ⟨he.defers, tup us, run_results hr (hres.run he hs), x, hx, by rw [hv], hs.tks ht⟩
theorem GK.retn {X : Cx} {l : Tl} {L : Bl} {fn : Func} {S : Type} {Φ : S → Prop} {v : S → Value} {Lp : S → Bl} {R : Bl} (hr : fn.results = #[]) (x : S) (hx : Φ x) (hv : .tuple #[] = v x) (ht : Tks (Lp x) L R) :
    GK X (bodyPost X.P fn (Left X.F Φ v Lp) .normal) l L := by
  intro a w he hs
  refine ⟨he.defers, .tuple #[], ?_, x, hx, by rw [hv], hs.tks ht⟩
  exact run_results (rs := []) (us := []) hr rfl
end Go.Sx
