/-
  Small lemmas by which a walk goes on: exits, finding blocks, numbers in their range, lists of numbers as cells. Lemmas only; no condition.
-/
import Derived.Test.YtbeiciinppmekaaSx4
set_option linter.unusedSimpArgs false
set_option linter.unusedVariables false
namespace Go.Sx
open Go
section
variable {X : Cx} {l : Tl} {L : Bl} {Q : Xt} {K : Kt}
theorem GK.thene {id : Nat} (h : GK X (Q (.exit id)) l L) : GK X (Exit.then K Q (.exit id)) l L := h
theorem GK.thenr (h : GK X (Q .ret) l L) : GK X (Exit.then K Q .ret) l L := h
theorem GK.blockn {id : Nat} (h : GK X (Q .normal) l L) : GK X (Exit.inBlock id Q .normal) l L := h
theorem GK.blockr {id : Nat} (h : GK X (Q .ret) l L) : GK X (Exit.inBlock id Q .ret) l L := h
theorem GK.blocke {id : Nat} (h : GK X (Q .normal) l L) : GK X (Exit.inBlock id Q (.exit id)) l L := by
  intro a w he hs
  simp only [Exit.inBlock, if_true]
  exact h a w he hs
end
class InC (b : Option Nat) (L : Bl) (B : outParam Blk) : Prop where
  m : In b B L
instance (priority := high) InC.here {b : Option Nat} {B : Blk} {L : Bl} : InC b ((b, B) :: L) B := ⟨In.h0⟩
instance (priority := low) InC.there {b : Option Nat} {B : Blk} {x : Option Nat × Blk} {L : Bl} [h : InC b L B] : InC b (x :: L) B := ⟨List.mem_cons_of_mem _ h.m⟩
class UpdC (b : Option Nat) (L : Bl) (B : outParam Blk) (B' : Blk) (L' : outParam Bl) : Prop where
  u : Upd b B B' L L'
instance (priority := high) UpdC.here {b : Option Nat} {B B' : Blk} {L : Bl} : UpdC b ((b, B) :: L) B B' ((b, B') :: L) := ⟨.here _⟩
instance (priority := low) UpdC.there {b : Option Nat} {B B' : Blk} {x : Option Nat × Blk} {L L' : Bl} [h : UpdC b L B B' L'] : UpdC b (x :: L) B B' (x :: L') := ⟨.there _ h.u⟩
class TkC (b : Option Nat) (L : Bl) (B : outParam Blk) (R : outParam Bl) : Prop where
  t : Tk b B L R
instance (priority := high) TkC.here {b : Option Nat} {B : Blk} {L : Bl} : TkC b ((b, B) :: L) B L := ⟨.here _⟩
instance (priority := low) TkC.there {b : Option Nat} {B : Blk} {x : Option Nat × Blk} {L R : Bl} [h : TkC b L B R] : TkC b (x :: L) B (x :: R) := ⟨.there _ h.t⟩
theorem Rd.o {F : Fr} {L : Bl} {b : Nat} {B : Blk} [h : InC (some b) L B] : Rd F L b B := .inl h.m
theorem In.o {L : Bl} {b : Option Nat} {B : Blk} [h : InC b L B] : In b B L := h.m
/-- Cell o of block b is v. -/
def Rdc (F : Fr) (L : Bl) (b o : Nat) (v : Value) : Prop := ∃ cs E, Rd F L b (.cells cs E) ∧ cs[o]? = some v
theorem Rdc.o {F : Fr} {L : Bl} {b o : Nat} {cs : List Value} {E : TypeId} {v : Value} [h : InC (some b) L (.cells cs E)] (hc : cs[o]? = some v) : Rdc F L b o v := ⟨cs, E, .inl h.m, hc⟩
theorem Rdc.f {F : Fr} {L : Bl} {b o : Nat} {cs : List Value} {E : TypeId} {v : Value} (h : F.h b = some (Blk.cells cs E).toObj) (hc : cs[o]? = some v) : Rdc F L b o v := ⟨cs, E, .inr h, hc⟩
section
variable {X : Cx} {l : Tl} {L : Bl} {Q : Xt}
theorem Qt.ldc {T : TypeId} {x : Operand} {b o : Nat} {v : Value} (hT : aggB X.P T = some false) (hx : opv l x = some (.pointer (some ⟨b, o, none⟩))) (hb : Rdc X.F L b o v) : Qt X l L (.load T x) v := by
  obtain ⟨cs, E, hb, hc⟩ := hb
  exact Qt.ld1 hT hx hb hc
/-- Block b with v at place o. -/
def Stc (L : Bl) (b o : Nat) (v : Value) (L' : Bl) : Prop := ∃ cs cs' E, Upd (some b) (.cells cs E) (.cells cs' E) L L' ∧ SetAt cs o v cs'
theorem Stc.o {L L' : Bl} {b o : Nat} {v : Value} {cs cs' : List Value} {E : TypeId} [h : UpdC (some b) L (.cells cs E) (.cells cs' E) L'] (hs : SetAt cs o v cs') : Stc L b o v L' := ⟨cs, cs', E, h.u, hs⟩
theorem Ld.stc {x y : Operand} {T U : TypeId} {ps : String} {af : Array Edge} {g : Option (Nat × Bool)} {b o : Nat} {v : Value} {L' : Bl} {C : Tl → Bl → Prop} (hz : szB X.P T = some 1) (hx : opv l x = some (.pointer (some ⟨b, o, none⟩))) (hy : opv l y = some v)
    (hv : v.oneCell' = true) (hs' : Stc L b o v L') (h : C l L') : Ld X Q ⟨none, .store T x y, U, ps, af, g⟩ l L C := by
  obtain ⟨cs, cs', E, hu, hset⟩ := hs'
  exact Ld.st hz hx hy hv hset hu h
end
section
variable {x0 x1 x2 x3 x4 x5 x6 x7 x8 x9 x10 x11 x12 x13 y v : Value} {cs : List Value}
theorem SetAt.k0 : SetAt (y :: cs) 0 v (v :: cs) := .z _ _ _
theorem SetAt.k1 : SetAt (x0 :: y :: cs) 1 v (x0 :: v :: cs) := .s _ SetAt.k0
theorem SetAt.k2 : SetAt (x0 :: x1 :: y :: cs) 2 v (x0 :: x1 :: v :: cs) := .s _ SetAt.k1
theorem SetAt.k3 : SetAt (x0 :: x1 :: x2 :: y :: cs) 3 v (x0 :: x1 :: x2 :: v :: cs) := .s _ SetAt.k2
theorem SetAt.k4 : SetAt (x0 :: x1 :: x2 :: x3 :: y :: cs) 4 v (x0 :: x1 :: x2 :: x3 :: v :: cs) := .s _ SetAt.k3
theorem SetAt.k5 : SetAt (x0 :: x1 :: x2 :: x3 :: x4 :: y :: cs) 5 v (x0 :: x1 :: x2 :: x3 :: x4 :: v :: cs) := .s _ SetAt.k4
theorem SetAt.k6 : SetAt (x0 :: x1 :: x2 :: x3 :: x4 :: x5 :: y :: cs) 6 v (x0 :: x1 :: x2 :: x3 :: x4 :: x5 :: v :: cs) := .s _ SetAt.k5
theorem SetAt.k7 : SetAt (x0 :: x1 :: x2 :: x3 :: x4 :: x5 :: x6 :: y :: cs) 7 v (x0 :: x1 :: x2 :: x3 :: x4 :: x5 :: x6 :: v :: cs) := .s _ SetAt.k6
theorem SetAt.k8 : SetAt (x0 :: x1 :: x2 :: x3 :: x4 :: x5 :: x6 :: x7 :: y :: cs) 8 v (x0 :: x1 :: x2 :: x3 :: x4 :: x5 :: x6 :: x7 :: v :: cs) := .s _ SetAt.k7
theorem SetAt.k9 : SetAt (x0 :: x1 :: x2 :: x3 :: x4 :: x5 :: x6 :: x7 :: x8 :: y :: cs) 9 v (x0 :: x1 :: x2 :: x3 :: x4 :: x5 :: x6 :: x7 :: x8 :: v :: cs) := .s _ SetAt.k8
theorem SetAt.k10 : SetAt (x0 :: x1 :: x2 :: x3 :: x4 :: x5 :: x6 :: x7 :: x8 :: x9 :: y :: cs) 10 v (x0 :: x1 :: x2 :: x3 :: x4 :: x5 :: x6 :: x7 :: x8 :: x9 :: v :: cs) := .s _ SetAt.k9
theorem SetAt.k11 : SetAt (x0 :: x1 :: x2 :: x3 :: x4 :: x5 :: x6 :: x7 :: x8 :: x9 :: x10 :: y :: cs) 11 v (x0 :: x1 :: x2 :: x3 :: x4 :: x5 :: x6 :: x7 :: x8 :: x9 :: x10 :: v :: cs) := .s _ SetAt.k10
theorem SetAt.k12 : SetAt (x0 :: x1 :: x2 :: x3 :: x4 :: x5 :: x6 :: x7 :: x8 :: x9 :: x10 :: x11 :: y :: cs) 12 v (x0 :: x1 :: x2 :: x3 :: x4 :: x5 :: x6 :: x7 :: x8 :: x9 :: x10 :: x11 :: v :: cs) := .s _ SetAt.k11
end
theorem Tks.c {b : Option Nat} {B : Blk} {A L R S : Bl} [h : TkC b L B R] (hs : Tks A R S) : Tks ((b, B) :: A) L S := .cons h.t hs
theorem Tks.skip {A L R : Bl} {x : Option Nat × Blk} (h : Tks A L R) : Tks A (x :: L) (x :: R) := by
  induction h generalizing x with
  | nil L => exact .nil _
  | cons h hs ih => exact .cons (.there _ h) ih
theorem Tks.all : ∀ (L : Bl), Tks L L []
  | [] => .nil _
  | (_, _) :: L => .cons (.here _) (Tks.all L)
theorem i64_id {x : Int} (h1 : -9223372036854775808 ≤ x) (h2 : x ≤ 9223372036854775807) : IntKind.i64.wrap x = x := IntWalk.i64_in _ ⟨h1, h2⟩
theorem u8_mod (x : Int) : IntKind.u8.wrap x = x % 256 := by simp [IntKind.wrap, IntKind.bits, IntKind.signed]
theorem u16_mod (x : Int) : IntKind.u16.wrap x = x % 65536 := by simp [IntKind.wrap, IntKind.bits, IntKind.signed]
theorem u32_mod (x : Int) : IntKind.u32.wrap x = x % 4294967296 := by simp [IntKind.wrap, IntKind.bits, IntKind.signed]
theorem u64_mod (x : Int) : IntKind.u64.wrap x = x % 18446744073709551616 := by simp [IntKind.wrap, IntKind.bits, IntKind.signed]
theorem u8_id {x : Int} (h1 : 0 ≤ x) (h2 : x ≤ 255) : IntKind.u8.wrap x = x := by rw [u8_mod]; omega
theorem u16_id {x : Int} (h1 : 0 ≤ x) (h2 : x ≤ 65535) : IntKind.u16.wrap x = x := by rw [u16_mod]; omega
theorem u32_id {x : Int} (h1 : 0 ≤ x) (h2 : x ≤ 4294967295) : IntKind.u32.wrap x = x := by rw [u32_mod]; omega
theorem u64_id {x : Int} (h1 : 0 ≤ x) (h2 : x ≤ 18446744073709551615) : IntKind.u64.wrap x = x := by rw [u64_mod]; omega
theorem rem_nn {p q : Int} (h : 0 ≤ p) : p.tmod q = p % q := Int.tmod_eq_emod_of_nonneg h
theorem quo_nn {k : IntKind} {p q : Int} (h : 0 ≤ p) (hw : k.wrap (p / q) = p / q) : k.wrap (p.tdiv q) = p / q := by rw [Int.tdiv_eq_ediv_of_nonneg h]; exact hw
/-- Numbers as cells. -/
def vI (k : IntKind) (xs : List Int) : List Value := xs.map (Value.int k)
/-- Number i of a list. -/
def ix (xs : List Int) (i : Nat) : Int := xs.getD i 0
theorem vI_length (k : IntKind) (xs : List Int) : (vI k xs).length = xs.length := by simp [vI]
theorem nth_vI {k : IntKind} {xs : List Int} {i : Nat} (h : i < xs.length) : (vI k xs)[i]? = some (.int k (ix xs i)) := by simp [vI, ix, h]
theorem nth_vIs {k : IntKind} {xs : List Int} {sp : List Value} {i : Nat} (h : i < xs.length) : (vI k xs ++ sp)[i]? = some (.int k (ix xs i)) := by
  rw [List.getElem?_append_left (by rw [vI_length]; exact h)]; exact nth_vI h
theorem set_vIs {k : IntKind} {xs : List Int} {sp : List Value} {i : Nat} {n : Int} (h : i < xs.length) : (vI k xs ++ sp).set i (.int k n) = vI k (xs.set i n) ++ sp := by
  rw [List.set_append_left _ _ (by rw [vI_length]; exact h)]
  simp [vI, List.map_set]
end Go.Sx
