/-
  Regions that draw their order. Lemmas only; no condition.
-/
import Derived.Test.YtbeiciinppmekaaSx5
set_option linter.unusedSimpArgs false
set_option linter.unusedVariables false
namespace Go.Sx
open Go
/-- Which operations have come up: bit i of m. -/
def lm (n m : Nat) : Array Bool := ((List.range n).map (fun i => m.testBit i)).toArray
theorem lm_set {n m i : Nat} (hi : i < n) : (lm n m).setIfInBounds i true = lm n (m ||| 2 ^ i) := by
  apply Array.ext
  · simp [lm]
  · intro j h1 h2
    simp only [lm, Array.size_setIfInBounds, List.size_toArray, List.length_map, List.length_range] at h1 h2
    simp only [lm, Array.getElem_setIfInBounds, List.getElem_toArray, List.getElem_map, List.getElem_range, Nat.testBit_or, Nat.testBit_two_pow]
    by_cases e : i = j <;> simp [e]
theorem lm_zero (n : Nat) : Array.replicate n false = lm n 0 := by
  apply Array.ext
  · simp [lm]
  · intro j h1 h2
    simp [lm]
/-- What Q says of a panic does not hang on the temporaries. -/
class PQ (Q : Xt) : Prop where
  p : ∀ c d v a w, Q (.panic c) (Act.put a d v) w → Q (.panic c) a w
instance {P : Program} {fn : Func} {R : Ending → World → Prop} : PQ (bodyPost P fn R) := ⟨fun c d v a w h => by cases d <;> exact h⟩
instance {K : Kt} {Q : Xt} [h : PQ Q] : PQ (Exit.then K Q) := ⟨fun c d v a w hq => h.p c d v a w hq⟩
instance {id : Nat} {Q : Xt} [h : PQ Q] : PQ (Exit.inBlock id Q) := ⟨fun c d v a w hq => h.p c d v a w hq⟩
theorem Held.all {L : Bl} : Held L L := ⟨[], Tks.all L⟩
theorem Held.none {L : Bl} : Held L [] := ⟨L, .nil L⟩
theorem Held.nil : Held [] [] := ⟨[], .nil []⟩
theorem Held.d {L Lh : Bl} {x : Option Nat × Blk} (h : Held L Lh) : Held (x :: L) Lh := ⟨_, Tks.skip h.choose_spec⟩
theorem Held.k {L Lh : Bl} {x : Option Nat × Blk} (h : Held L Lh) : Held (x :: L) (x :: Lh) := by
  obtain ⟨R, h⟩ := h
  obtain ⟨b, B⟩ := x
  exact ⟨R, .cons (.here _) h⟩
def GH (X : Cx) (ops : Array Oper) (Q : Xt) (Lh : Bl) (f m : Nat) (l : Tl) (L : Bl) : Prop :=
  ∀ a w, Env X.N a l → St X.F w L → wpAnyH X.P .any ops Q (fun w => St X.F w Lh) f (lm ops.size m) a w
/-- On after an operation: what is held is there still. -/
def GN (X : Cx) (ops : Array Oper) (Q : Xt) (Lh : Bl) (f m : Nat) (l : Tl) (L : Bl) : Prop := Held L Lh ∧ GH X ops Q Lh f m l L
section
variable {X : Cx} {ops : Array Oper} {Q : Xt} {l : Tl} {L Lh : Bl} {f m m' : Nat}
theorem GC.draw {id : Nat} (hm : X.P.follows .mixedOrders = true) (Lh : Bl) (hh : Held L Lh) (h : GH X ops Q Lh ops.size 0 l L) : GC X (.region id ops true) Q l L := by
  intro a w he hs
  refine wp_region_held (S := fun w => St X.F w Lh) hm ?_
  rw [lm_zero]
  exact h a _ he hs.drew
theorem GH.take {i d T : Nat} {o : Op} {p : String} {af : Array Edge} {g : Option (Nat × Bool)} {v : Value} [pq : PQ Q] (hi : ops[i]? = some ⟨some d, o, T, p, af, g⟩) (hc : (Region.noSelect ops && Region.free .any ops (lm ops.size m) i && (Region.ready .any ops (lm ops.size m)).contains i) = true)
    (hm : m ||| 2 ^ i = m') (hN : Nat.blt d X.N = true) (hg : Gd ops l g) (hq : Qt X l Lh o v) (hh : Held L Lh) (h : GH X ops Q Lh f m' ((d, v) :: l) L) : GH X ops Q Lh (f + 1) m l L := by
  intro a w he hs
  simp only [Bool.and_eq_true] at hc
  obtain ⟨⟨h1, h2⟩, h3⟩ := hc
  have hlt : i < ops.size := (Array.getElem?_eq_some_iff.1 hi).1
  refine wpAnyH_take (v := v) hi h1 h2 h3 (fun c a w hq => pq.p c _ _ a w hq) (.inl ⟨Gd.wanted hg he, fun w hs => hq _ _ _ _ _ a w he hs⟩) (hs.tks hh.choose_spec) ?_
  rw [lm_set hlt, hm]
  exact h _ _ (he.put hN v) hs
/-- An operation that is passed over. -/
theorem GH.pass {i d T : Nat} {o : Op} {p : String} {af : Array Edge} {j tg : Nat} {b c : Bool} [pq : PQ Q] (hi : ops[i]? = some ⟨some d, o, T, p, af, some (j, c)⟩) (hc : (Region.noSelect ops && Region.free .any ops (lm ops.size m) i && (Region.ready .any ops (lm ops.size m)).contains i) = true)
    (hm : m ||| 2 ^ i = m') (hN : Nat.blt d X.N = true) (hj : (ops[j]?).bind (·.dst) = some tg) (hg : lk l tg = some (.bool b)) (hbc : (b == c) = false) (hh : Held L Lh) (h : GH X ops Q Lh f m' ((d, undef) :: l) L) : GH X ops Q Lh (f + 1) m l L := by
  intro a w he hs
  simp only [Bool.and_eq_true] at hc
  obtain ⟨⟨h1, h2⟩, h3⟩ := hc
  have hlt : i < ops.size := (Array.getElem?_eq_some_iff.1 hi).1
  have hw : Region.wanted ⟨some d, o, T, p, af, some (j, c)⟩ (yielded ops a.tmps) = false := by
    simp only [Region.wanted, yielded, hj, Option.bind_some, he.get _ _ hg]
    cases b <;> cases c <;> simp_all
  refine wpAnyH_take (v := undef) hi h1 h2 h3 (fun c a w hq => pq.p c _ _ a w hq) (.inr ⟨hw, rfl⟩) (hs.tks hh.choose_spec) ?_
  rw [lm_set hlt, hm]
  exact h _ _ (he.put hN undef) hs
theorem GH.passu {i d T : Nat} {o : Op} {p : String} {af : Array Edge} {j tg : Nat} {c : Bool} [pq : PQ Q] (hi : ops[i]? = some ⟨some d, o, T, p, af, some (j, c)⟩) (hc : (Region.noSelect ops && Region.free .any ops (lm ops.size m) i && (Region.ready .any ops (lm ops.size m)).contains i) = true)
    (hm : m ||| 2 ^ i = m') (hN : Nat.blt d X.N = true) (hj : (ops[j]?).bind (·.dst) = some tg) (hg : lk l tg = some undef) (hh : Held L Lh) (h : GH X ops Q Lh f m' ((d, undef) :: l) L) : GH X ops Q Lh (f + 1) m l L := by
  intro a w he hs
  simp only [Bool.and_eq_true] at hc
  obtain ⟨⟨h1, h2⟩, h3⟩ := hc
  have hlt : i < ops.size := (Array.getElem?_eq_some_iff.1 hi).1
  have hw : Region.wanted ⟨some d, o, T, p, af, some (j, c)⟩ (yielded ops a.tmps) = false := by
    simp only [Region.wanted, yielded, hj, Option.bind_some, he.get _ _ hg]
    rfl
  refine wpAnyH_take (v := undef) hi h1 h2 h3 (fun c a w hq => pq.p c _ _ a w hq) (.inr ⟨hw, rfl⟩) (hs.tks hh.choose_spec) ?_
  rw [lm_set hlt, hm]
  exact h _ _ (he.put hN undef) hs
theorem GH.run {i : Nat} {o : Oper} {a : Act} {w : World} (hi : ops[i]? = some o) (hm : m ||| 2 ^ i = m') (hg : Gd ops l o.guard) (h : Ld X Q o l L (GN X ops Q Lh f m')) (he : Env X.N a l) (hs : St X.F w L) :
    wpOp X.P ops Q i (fun a' w' => St X.F w' Lh ∧ wpAnyH X.P .any ops Q (fun w => St X.F w Lh) f ((lm ops.size m).setIfInBounds i true) a' w') a w := by
  have hlt : i < ops.size := (Array.getElem?_eq_some_iff.1 hi).1
  unfold wpOp
  simp only [hi, Gd.wanted hg he, if_true]
  left
  refine h a w he hs _ ?_
  rintro l' L' ⟨hh, h'⟩ a' w' he' hs'
  rw [lm_set hlt, hm]
  exact ⟨hs'.tks hh.choose_spec, h' a' w' he' hs'⟩
theorem GH.one {i : Nat} {o : Oper} (hr : Region.ready .any ops (lm ops.size m) = [i]) (hi : ops[i]? = some o) (hm : m ||| 2 ^ i = m') (hg : Gd ops l o.guard) (h : Ld X Q o l L (GN X ops Q Lh f m')) : GH X ops Q Lh (f + 1) m l L := by
  intro a w he hs
  refine wpAnyH_all hr (by simp) ?_
  intro j hj
  simp only [List.mem_singleton] at hj
  subst hj
  exact GH.run hi hm hg h he hs
theorem GH.two {i j mi mj : Nat} {o u : Oper} (hr : Region.ready .any ops (lm ops.size m) = [i, j]) (hi : ops[i]? = some o) (hj : ops[j]? = some u) (hmi : m ||| 2 ^ i = mi) (hmj : m ||| 2 ^ j = mj) (hg : Gd ops l o.guard) (hg2 : Gd ops l u.guard)
    (h : Ld X Q o l L (GN X ops Q Lh f mi)) (h2 : Ld X Q u l L (GN X ops Q Lh f mj)) : GH X ops Q Lh (f + 1) m l L := by
  intro a w he hs
  refine wpAnyH_all hr (by simp) ?_
  intro k hk
  simp only [List.mem_cons, List.not_mem_nil, or_false] at hk
  rcases hk with hk | hk
  · subst hk; exact GH.run hi hmi hg h he hs
  · subst hk; exact GH.run hj hmj hg2 h2 he hs
theorem GH.done (hr : Region.ready .any ops (lm ops.size m) = []) (h : GK X (Q .normal) l L) : GH X ops Q Lh f m l L :=
  fun a w he hs => wpAnyH_done hr (h a w he hs) f
theorem GH.wk {l' : Tl} (hw : Wk l l') (h : GH X ops Q Lh f m l' L) : GH X ops Q Lh f m l L := fun a w he hs => h a w (he.wk hw) hs
/-- A case on the Bool of a guard. -/
theorem GH.split {tg : Nat} {b : Bool} (hb : lk l tg = some (.bool b)) (ht : b = true → GH X ops Q Lh f m ((tg, .bool true) :: l) L) (hf : b = false → GH X ops Q Lh f m ((tg, .bool false) :: l) L) : GH X ops Q Lh f m l L := by
  intro a w he hs
  cases b
  · exact hf rfl a w (Env.wk0 he hb) hs
  · exact ht rfl a w (Env.wk0 he hb) hs
end
class TksC (A L : Bl) (R : outParam Bl) : Prop where
  t : Tks A L R
instance TksC.nil {L : Bl} : TksC [] L L := ⟨.nil L⟩
instance TksC.cons {b : Option Nat} {B : Blk} {A L R S : Bl} [h : TkC b L B R] [hs : TksC A R S] : TksC ((b, B) :: A) L S := ⟨.cons h.t hs.t⟩
theorem Held.c {L Lh R : Bl} [h : TksC Lh L R] : Held L Lh := ⟨R, h.t⟩
end Go.Sx
