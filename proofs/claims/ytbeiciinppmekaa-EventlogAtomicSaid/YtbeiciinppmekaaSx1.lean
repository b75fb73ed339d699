/-
  A small program logic over the kit's Calls and Code.wp: states are lists of known temporaries and known blocks. Lemmas only; no condition.
-/
import Derived.OrdersHeld
import Derived.Tactics
import Derived.Below
import Derived.KernelRfl
set_option linter.unusedSimpArgs false
set_option linter.unusedVariables false
namespace Go.Sx
open Go
abbrev Tl := List (Nat × Value)
def lk : Tl → Nat → Option Value
  | [], _ => none
  | (k, v) :: l, t => match Nat.beq k t with
    | true => some v
    | false => lk l t
structure Env (N : Nat) (a : Act) (l : Tl) : Prop where
  size : a.tmps.size = N
  defers : a.defers = []
  get : ∀ t v, lk l t = some v → a.tmps[t]? = some v
def opv (l : Tl) : Operand → Option Value
  | .tmp t => lk l t
  | .const v => some v
  | .global g => some (.pointer (some ⟨g, 0, none⟩))
  | .func f => some (.func (.func f) #[] #[])
def opvs (l : Tl) : List Operand → Option (List Value)
  | [] => some []
  | o :: r => match opv l o with
    | none => none
    | some v => match opvs l r with
      | none => none
      | some vs => some (v :: vs)
theorem Env.eval {N : Nat} {a : Act} {l : Tl} (h : Env N a l) {x : Operand} {v : Value} (hx : opv l x = some v) : a.eval x = v := by
  cases x with
  | tmp t =>
    have := h.get t v hx
    simp [Act.eval, this]
  | const c => simpa [opv, Act.eval] using hx
  | global g => simpa [opv, Act.eval] using hx
  | func f => simpa [opv, Act.eval] using hx
theorem Env.evals {N : Nat} {a : Act} {l : Tl} (h : Env N a l) : ∀ {xs : List Operand} {vs : List Value}, opvs l xs = some vs → xs.map a.eval = vs
  | [], vs, hx => by simpa [opvs] using hx
  | x :: r, vs, hx => by
    simp only [opvs] at hx
    cases h1 : opv l x with
    | none => simp [h1] at hx
    | some v =>
      cases h2 : opvs l r with
      | none => simp [h1, h2] at hx
      | some ws =>
        simp only [h1, h2, Option.some.injEq] at hx
        subst hx
        simp [h.eval h1, h.evals h2]
theorem Env.put {N : Nat} {a : Act} {l : Tl} (h : Env N a l) {d : Nat} (hd : Nat.blt d N = true) (v : Value) : Env N (a.put (some d) v) ((d, v) :: l) := by
  have hd' : d < a.tmps.size := by rw [h.size]; simpa using hd
  refine ⟨by simp [Act.put, h.size], h.defers, fun t u hu => ?_⟩
  simp only [lk] at hu
  by_cases e : d = t
  · subst e
    simp at hu
    subst hu
    simp [Act.put, hd']
  · have hb : Nat.beq d t = false := by
      cases hb : Nat.beq d t
      · rfl
      · exact absurd (Nat.eq_of_beq_eq_true hb) e
    rw [hb] at hu
    have := h.get t u hu
    simp only [Act.put]
    rw [Array.getElem?_setIfInBounds_ne e]
    exact this
/-- One list of known temporaries follows from another. -/
def Wk (l : Tl) : Tl → Prop
  | [] => True
  | p :: r => lk l p.1 = some p.2 ∧ Wk l r
theorem Env.wk {N : Nat} {a : Act} {l : Tl} (h : Env N a l) : ∀ {r : Tl}, Wk l r → Env N a r
  | [], _ => ⟨h.size, h.defers, fun t v hv => by simp [lk] at hv⟩
  | p :: r, hw => by
    have ih := h.wk (r := r) hw.2
    refine ⟨h.size, h.defers, fun t v hv => ?_⟩
    simp only [lk] at hv
    cases hb : Nat.beq p.1 t with
    | true =>
      rw [hb] at hv
      simp only [Option.some.injEq] at hv
      have e := Nat.eq_of_beq_eq_true hb
      subst hv; subst e
      exact h.get _ _ hw.1
    | false => rw [hb] at hv; exact ih.get t v hv
inductive Blk where
  | cells (cs : List Value) (T : TypeId)
  | obj (o : Obj)
def Blk.toObj : Blk → Obj
  | .cells cs T => .cells cs.toArray T (0, 0)
  | .obj o => o
abbrev Bl := List (Option Nat × Blk)
structure Fr where
  h : Nat → Option Obj
  os : Os
  tape : Nat → Question → Nat
  output : Array (Nat × ByteArray)
  size : Nat
structure St (F : Fr) (w : World) (L : Bl) : Prop where
  own : ∀ b B, (some b, B) ∈ L → w.heap[b]? = some B.toObj
  nodup : (L.filterMap (·.1)).Nodup
  fr : ∀ b o, F.h b = some o → w.heap[b]? = some o
  apart : ∀ b B, (some b, B) ∈ L → F.h b = none
  os : w.os = F.os
  tape : w.tape = F.tape
  output : w.output = F.output
  size : F.size ≤ w.heap.size
/-- A block that is owned. -/
def In (b : Option Nat) (B : Blk) (L : Bl) : Prop := (b, B) ∈ L
section
variable {b : Option Nat} {B : Blk} {x0 x1 x2 x3 x4 x5 x6 x7 x8 x9 x10 x11 : Option Nat × Blk} {L : Bl}
theorem In.h0 : In b B ((b, B) :: L) := .head _
theorem In.h1 : In b B (x0 :: (b, B) :: L) := .tail _ In.h0
theorem In.h2 : In b B (x0 :: x1 :: (b, B) :: L) := .tail _ In.h1
theorem In.h3 : In b B (x0 :: x1 :: x2 :: (b, B) :: L) := .tail _ In.h2
theorem In.h4 : In b B (x0 :: x1 :: x2 :: x3 :: (b, B) :: L) := .tail _ In.h3
theorem In.h5 : In b B (x0 :: x1 :: x2 :: x3 :: x4 :: (b, B) :: L) := .tail _ In.h4
theorem In.h6 : In b B (x0 :: x1 :: x2 :: x3 :: x4 :: x5 :: (b, B) :: L) := .tail _ In.h5
theorem In.h7 : In b B (x0 :: x1 :: x2 :: x3 :: x4 :: x5 :: x6 :: (b, B) :: L) := .tail _ In.h6
theorem In.h8 : In b B (x0 :: x1 :: x2 :: x3 :: x4 :: x5 :: x6 :: x7 :: (b, B) :: L) := .tail _ In.h7
theorem In.h9 : In b B (x0 :: x1 :: x2 :: x3 :: x4 :: x5 :: x6 :: x7 :: x8 :: (b, B) :: L) := .tail _ In.h8
theorem In.h10 : In b B (x0 :: x1 :: x2 :: x3 :: x4 :: x5 :: x6 :: x7 :: x8 :: x9 :: (b, B) :: L) := .tail _ In.h9
theorem In.h11 : In b B (x0 :: x1 :: x2 :: x3 :: x4 :: x5 :: x6 :: x7 :: x8 :: x9 :: x10 :: (b, B) :: L) := .tail _ In.h10
end
/-- A block that can be read: owned, or of the frame. -/
def Rd (F : Fr) (L : Bl) (b : Nat) (B : Blk) : Prop := In (some b) B L ∨ F.h b = some B.toObj
theorem Rd.own {F : Fr} {L : Bl} {b : Nat} {B : Blk} (h : In (some b) B L) : Rd F L b B := .inl h
theorem Rd.fr {F : Fr} {L : Bl} {b : Nat} {B : Blk} (h : F.h b = some B.toObj) : Rd F L b B := .inr h
theorem St.rd {F : Fr} {w : World} {L : Bl} (h : St F w L) {b : Nat} {B : Blk} (hr : Rd F L b B) : w.heap[b]? = some B.toObj :=
  hr.elim (h.own b B) (h.fr b _)
/-- Block b holds B, then B'. -/
inductive Upd (b : Option Nat) (B B' : Blk) : Bl → Bl → Prop
  | here (L : Bl) : Upd b B B' ((b, B) :: L) ((b, B') :: L)
  | there {L L' : Bl} (x : Option Nat × Blk) (h : Upd b B B' L L') : Upd b B B' (x :: L) (x :: L')
section
variable {b : Option Nat} {B B' : Blk} {x0 x1 x2 x3 x4 x5 x6 x7 x8 x9 x10 : Option Nat × Blk} {L : Bl}
theorem Upd.h0 : Upd b B B' ((b, B) :: L) ((b, B') :: L) := .here _
theorem Upd.h1 : Upd b B B' (x0 :: (b, B) :: L) (x0 :: (b, B') :: L) := .there _ Upd.h0
theorem Upd.h2 : Upd b B B' (x0 :: x1 :: (b, B) :: L) (x0 :: x1 :: (b, B') :: L) := .there _ Upd.h1
theorem Upd.h3 : Upd b B B' (x0 :: x1 :: x2 :: (b, B) :: L) (x0 :: x1 :: x2 :: (b, B') :: L) := .there _ Upd.h2
theorem Upd.h4 : Upd b B B' (x0 :: x1 :: x2 :: x3 :: (b, B) :: L) (x0 :: x1 :: x2 :: x3 :: (b, B') :: L) := .there _ Upd.h3
theorem Upd.h5 : Upd b B B' (x0 :: x1 :: x2 :: x3 :: x4 :: (b, B) :: L) (x0 :: x1 :: x2 :: x3 :: x4 :: (b, B') :: L) := .there _ Upd.h4
theorem Upd.h6 : Upd b B B' (x0 :: x1 :: x2 :: x3 :: x4 :: x5 :: (b, B) :: L) (x0 :: x1 :: x2 :: x3 :: x4 :: x5 :: (b, B') :: L) := .there _ Upd.h5
theorem Upd.h7 : Upd b B B' (x0 :: x1 :: x2 :: x3 :: x4 :: x5 :: x6 :: (b, B) :: L) (x0 :: x1 :: x2 :: x3 :: x4 :: x5 :: x6 :: (b, B') :: L) := .there _ Upd.h6
theorem Upd.h8 : Upd b B B' (x0 :: x1 :: x2 :: x3 :: x4 :: x5 :: x6 :: x7 :: (b, B) :: L) (x0 :: x1 :: x2 :: x3 :: x4 :: x5 :: x6 :: x7 :: (b, B') :: L) := .there _ Upd.h7
theorem Upd.h9 : Upd b B B' (x0 :: x1 :: x2 :: x3 :: x4 :: x5 :: x6 :: x7 :: x8 :: (b, B) :: L) (x0 :: x1 :: x2 :: x3 :: x4 :: x5 :: x6 :: x7 :: x8 :: (b, B') :: L) := .there _ Upd.h8
end
theorem Upd.fm {b : Option Nat} {B B' : Blk} {L L' : Bl} (h : Upd b B B' L L') : L'.filterMap (·.1) = L.filterMap (·.1) := by
  induction h with
  | here L => simp [List.filterMap_cons]
  | there x h ih => simp [List.filterMap_cons, ih]
theorem Upd.inL {b : Option Nat} {B B' : Blk} {L L' : Bl} (h : Upd b B B' L L') : (b, B) ∈ L := by
  induction h with
  | here L => exact .head _
  | there x h ih => exact .tail _ ih
theorem Upd.mem {b : Nat} {B B' : Blk} {L L' : Bl} (h : Upd (some b) B B' L L') (nd : (L.filterMap (·.1)).Nodup) {k : Nat} {K : Blk} (hk : (some k, K) ∈ L') :
    (k = b ∧ K = B') ∨ (k ≠ b ∧ (some k, K) ∈ L) := by
  induction h with
  | here L =>
    rw [List.mem_cons] at hk
    rcases hk with hk | hk
    · simp at hk; exact .inl hk
    · refine .inr ⟨fun e => ?_, List.mem_cons_of_mem _ hk⟩
      subst e
      simp [List.filterMap_cons] at nd
      exact nd.1 K hk
  | @there L L' x h ih =>
    rw [List.mem_cons] at hk
    have nd' : (L.filterMap (·.1)).Nodup := by
      cases hx : x.1 with
      | none => simpa [List.filterMap_cons, hx] using nd
      | some n => simp [List.filterMap_cons, hx] at nd; exact nd.2
    rcases hk with hk | hk
    · subst hk
      refine .inr ⟨fun e => ?_, .head _⟩
      subst e
      simp [List.filterMap_cons] at nd
      obtain ⟨h1, _⟩ := nd
      exact h1 B h.inL
    · rcases ih nd' hk with h1 | h1
      · exact .inl h1
      · exact .inr ⟨h1.1, .tail _ h1.2⟩
/-- Taking one block out. -/
inductive Tk (b : Option Nat) (B : Blk) : Bl → Bl → Prop
  | here (L : Bl) : Tk b B ((b, B) :: L) L
  | there {L L' : Bl} (x : Option Nat × Blk) (h : Tk b B L L') : Tk b B (x :: L) (x :: L')
section
variable {b : Option Nat} {B : Blk} {x0 x1 x2 x3 x4 x5 x6 x7 x8 x9 x10 : Option Nat × Blk} {L : Bl}
theorem Tk.h0 : Tk b B ((b, B) :: L) L := .here _
theorem Tk.h1 : Tk b B (x0 :: (b, B) :: L) (x0 :: L) := .there _ Tk.h0
theorem Tk.h2 : Tk b B (x0 :: x1 :: (b, B) :: L) (x0 :: x1 :: L) := .there _ Tk.h1
theorem Tk.h3 : Tk b B (x0 :: x1 :: x2 :: (b, B) :: L) (x0 :: x1 :: x2 :: L) := .there _ Tk.h2
theorem Tk.h4 : Tk b B (x0 :: x1 :: x2 :: x3 :: (b, B) :: L) (x0 :: x1 :: x2 :: x3 :: L) := .there _ Tk.h3
theorem Tk.h5 : Tk b B (x0 :: x1 :: x2 :: x3 :: x4 :: (b, B) :: L) (x0 :: x1 :: x2 :: x3 :: x4 :: L) := .there _ Tk.h4
theorem Tk.h6 : Tk b B (x0 :: x1 :: x2 :: x3 :: x4 :: x5 :: (b, B) :: L) (x0 :: x1 :: x2 :: x3 :: x4 :: x5 :: L) := .there _ Tk.h5
theorem Tk.h7 : Tk b B (x0 :: x1 :: x2 :: x3 :: x4 :: x5 :: x6 :: (b, B) :: L) (x0 :: x1 :: x2 :: x3 :: x4 :: x5 :: x6 :: L) := .there _ Tk.h6
theorem Tk.h8 : Tk b B (x0 :: x1 :: x2 :: x3 :: x4 :: x5 :: x6 :: x7 :: (b, B) :: L) (x0 :: x1 :: x2 :: x3 :: x4 :: x5 :: x6 :: x7 :: L) := .there _ Tk.h7
theorem Tk.h9 : Tk b B (x0 :: x1 :: x2 :: x3 :: x4 :: x5 :: x6 :: x7 :: x8 :: (b, B) :: L) (x0 :: x1 :: x2 :: x3 :: x4 :: x5 :: x6 :: x7 :: x8 :: L) := .there _ Tk.h8
end
theorem Tk.perm {b : Option Nat} {B : Blk} {L R : Bl} (h : Tk b B L R) : L.Perm ((b, B) :: R) := by
  induction h with
  | here L => exact .refl _
  | there x h ih => exact (ih.cons x).trans (.swap _ _ _)
/-- Taking several blocks out, in this order; R is what is left. -/
inductive Tks : Bl → Bl → Bl → Prop
  | nil (L : Bl) : Tks [] L L
  | cons {b : Option Nat} {B : Blk} {A L R S : Bl} (h : Tk b B L R) (hs : Tks A R S) : Tks ((b, B) :: A) L S
theorem Tks.perm {A L R : Bl} (h : Tks A L R) : L.Perm (A ++ R) := by
  induction h with
  | nil L => exact .refl _
  | cons h hs ih => exact h.perm.trans (ih.cons _)
/-- Lh is a part of L. -/
def Held (L Lh : Bl) : Prop := ∃ R, Tks Lh L R
theorem St.perm {F : Fr} {w : World} {L L' : Bl} (h : St F w L) (hp : L.Perm L') : St F w L' :=
  ⟨fun b B hb => h.own b B (hp.mem_iff.2 hb), (hp.filterMap _).nodup_iff.1 h.nodup, h.fr, fun b B hb => h.apart b B (hp.mem_iff.2 hb), h.os, h.tape, h.output, h.size⟩
theorem St.left {F : Fr} {w : World} {A R : Bl} (h : St F w (A ++ R)) : St F w A :=
  ⟨fun b B hb => h.own b B (List.mem_append_left _ hb), by have := h.nodup; rw [List.filterMap_append] at this; exact (List.nodup_append.1 this).1, h.fr,
    fun b B hb => h.apart b B (List.mem_append_left _ hb), h.os, h.tape, h.output, h.size⟩
theorem St.tks {F : Fr} {w : World} {A L R : Bl} (h : St F w L) (hs : Tks A L R) : St F w A := (h.perm hs.perm).left
theorem St.held {F : Fr} {w : World} {L A : Bl} (h : St F w L) (hh : Held L A) : St F w A := by
  obtain ⟨R, ht⟩ := hh
  exact h.tks ht
theorem St.nil {F : Fr} {w : World} {L : Bl} (h : St F w L) : St F w [] :=
  ⟨fun _ _ hb => (List.not_mem_nil hb).elim, .nil, h.fr, fun _ _ hb => (List.not_mem_nil hb).elim, h.os, h.tape, h.output, h.size⟩
/-- The first block of a list under a number. -/
def ofL : Bl → Nat → Option Obj
  | [], _ => none
  | (some k, B) :: r, b => if k = b then some B.toObj else ofL r b
  | (none, _) :: r, b => ofL r b
theorem ofL_some {R : Bl} {b : Nat} {o : Obj} (h : ofL R b = some o) : ∃ B, (some b, B) ∈ R ∧ B.toObj = o := by
  induction R with
  | nil => simp [ofL] at h
  | cons x r ih =>
    obtain ⟨k, B⟩ := x
    cases k with
    | none => obtain ⟨B', hm, ho⟩ := ih h; exact ⟨B', .tail _ hm, ho⟩
    | some k =>
      simp only [ofL] at h
      split at h
      · rename_i e; subst e; simp at h; exact ⟨B, .head _, h⟩
      · obtain ⟨B', hm, ho⟩ := ih h; exact ⟨B', .tail _ hm, ho⟩
theorem ofL_mem {R : Bl} (nd : (R.filterMap (·.1)).Nodup) {b : Nat} {B : Blk} (hm : (some b, B) ∈ R) : ofL R b = some B.toObj := by
  induction R with
  | nil => simp at hm
  | cons x r ih =>
    obtain ⟨k, C⟩ := x
    rw [List.mem_cons] at hm
    cases k with
    | none =>
      rcases hm with hm | hm
      · simp at hm
      · exact ih (by simpa [List.filterMap_cons] using nd) hm
    | some k =>
      simp only [ofL]
      simp [List.filterMap_cons] at nd
      rcases hm with hm | hm
      · simp at hm; rw [if_pos hm.1.symm, hm.2]
      · rw [if_neg (fun e => by subst e; exact nd.1 B hm)]
        exact ih nd.2 hm
/-- The callee's frame: what stood in the frame, and the blocks that it is not handed. -/
structure Ext (F F' : Fr) (R : Bl) : Prop where
  fr : ∀ {b o}, F.h b = some o → F'.h b = some o
  own : ∀ {b B}, In (some b) B R → F'.h b = some B.toObj
def Fr.plus (F : Fr) (R : Bl) : Fr := { F with h := fun b => (ofL R b).or (F.h b) }
theorem St.plus {F : Fr} {w : World} {A R : Bl} (h : St F w (A ++ R)) : St (F.plus R) w A := by
  have nd := h.nodup
  rw [List.filterMap_append] at nd
  obtain ⟨n1, n2, n3⟩ := List.nodup_append.1 nd
  refine ⟨h.left.own, n1, fun b o ho => ?_, fun b B hb => ?_, h.os, h.tape, h.output, h.size⟩
  · simp only [Fr.plus] at ho
    cases hr : ofL R b with
    | none => rw [hr] at ho; exact h.fr b o ho
    | some o' =>
      rw [hr] at ho
      simp at ho
      subst ho
      obtain ⟨B, hm, e⟩ := ofL_some hr
      rw [← e]
      exact h.own b B (List.mem_append_right _ hm)
  · simp only [Fr.plus]
    cases hr : ofL R b with
    | none => simpa using h.apart b B (List.mem_append_left _ hb)
    | some o' =>
      obtain ⟨B', hm, _⟩ := ofL_some hr
      exact absurd rfl (n3 b (List.mem_filterMap.2 ⟨_, hb, rfl⟩) b (List.mem_filterMap.2 ⟨_, hm, rfl⟩))
theorem Fr.plus_ext {F : Fr} {w : World} {A R : Bl} (h : St F w (A ++ R)) : Ext F (F.plus R) R := by
  have nd := h.nodup
  rw [List.filterMap_append] at nd
  obtain ⟨n1, n2, n3⟩ := List.nodup_append.1 nd
  refine ⟨fun {b o} ho => ?_, fun {b B} hm => ?_⟩
  · simp only [Fr.plus]
    cases hr : ofL R b with
    | none => simpa using ho
    | some o' =>
      obtain ⟨B', hm, _⟩ := ofL_some hr
      have := h.apart b B' (List.mem_append_right _ hm)
      rw [this] at ho
      cases ho
  · simp only [Fr.plus, ofL_mem n2 hm, Option.some_or]
theorem St.minus {F : Fr} {w w' : World} {A A' R : Bl} (h : St F w (A ++ R)) (h' : St (F.plus R) w' A') : St F w' (A' ++ R) := by
  have nd := h.nodup
  rw [List.filterMap_append] at nd
  obtain ⟨n1, n2, n3⟩ := List.nodup_append.1 nd
  have ex := Fr.plus_ext h
  refine ⟨fun b B hb => ?_, ?_, fun b o ho => h'.fr b o (ex.fr ho), fun b B hb => ?_, h'.os, h'.tape, h'.output, h'.size⟩
  · rcases List.mem_append.1 hb with hb | hb
    · exact h'.own b B hb
    · exact h'.fr b _ (ex.own hb)
  · rw [List.filterMap_append]
    refine List.nodup_append.2 ⟨h'.nodup, n2, fun b hb c hc e => ?_⟩
    subst e
    obtain ⟨⟨_, B⟩, hm, rfl⟩ := List.mem_filterMap.1 hb
    obtain ⟨⟨_, C⟩, hm', e⟩ := List.mem_filterMap.1 hc
    simp only at e
    subst e
    have := h'.apart _ _ hm
    rw [ex.own hm'] at this
    cases this
  · rcases List.mem_append.1 hb with hb | hb
    · have := h'.apart b B hb
      cases hf : F.h b with
      | none => rfl
      | some o => rw [ex.fr hf] at this; cases this
    · exact h.apart b B (List.mem_append_right _ hb)
end Go.Sx
