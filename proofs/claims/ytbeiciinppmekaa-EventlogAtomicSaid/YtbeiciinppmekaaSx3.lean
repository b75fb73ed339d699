/-
  Operations that leave memory as it is. Lemmas only; no condition.
-/
import Derived.Test.YtbeiciinppmekaaSx2
import Derived.WalkKit
set_option linter.unusedSimpArgs false
set_option linter.unusedVariables false
namespace Go.Sx
open Go
def aggB (P : Program) (T : TypeId) : Option Bool := (P.underlying T).map fun | .struct _ => true | .array _ _ => true | _ => false
def szB (P : Program) (T : TypeId) : Option Nat := (P.info? T).map (·.size)
def byB (P : Program) (T : TypeId) : Option Nat := (P.info? T).map (·.bytes)
def zeB (P : Program) (T : TypeId) : Option Value := (P.info? T).bind (·.zero)
/-- The place and the cells of field i of struct S. -/
def fldB (P : Program) (S i : Nat) : Option (Nat × Nat) :=
  match P.underlying S with
  | some (.struct fs) => match fs[i]? with
    | some f => (szB P f.type).map fun n => (f.offset, n)
    | none => none
  | _ => none
section
variable {P : Program} {w : World}
theorem run_und {T : TypeId} {d : TypeDesc} (h : P.underlying T = some d) : (underlying T).run P w = .ok d w := by simp [underlying, h]
theorem run_isAgg {T : TypeId} {b : Bool} (h : aggB P T = some b) : (isAgg T).run P w = .ok b w := by
  unfold aggB at h
  cases hu : P.underlying T with
  | none => simp [hu] at h
  | some d =>
    simp only [hu, Option.map_some, Option.some.injEq] at h
    simp only [isAgg, Sem.run_bind, run_und hu, Result.andThen_ok]
    cases d <;> simp_all
theorem run_tyInfo {T : TypeId} {i : TypeInfo} (h : P.info? T = some i) : (typeInfo T).run P w = .ok i w := by simp [typeInfo, h]
theorem run_sizeOf {T : TypeId} {n : Nat} (h : szB P T = some n) : (sizeOf T).run P w = .ok n w := by
  unfold szB at h
  cases hu : P.info? T with
  | none => simp [hu] at h
  | some d =>
    simp only [hu, Option.map_some, Option.some.injEq] at h
    simp [sizeOf, run_tyInfo hu, h]
theorem run_zero {T : TypeId} {v : Value} (h : zeB P T = some v) : (zeroValue T).run P w = .ok v w := by
  unfold zeB at h
  cases hu : P.info? T with
  | none => simp [hu] at h
  | some d =>
    simp only [hu, Option.bind_some] at h
    simp [zeroValue, run_tyInfo hu, h]
end
theorem cell_of {w : World} {b : Nat} {cs : List Value} {T : TypeId} (h : w.heap[b]? = some (Blk.cells cs T).toObj) {i : Nat} {v : Value} (hi : cs[i]? = some v) : w.cell? ⟨b, i, none⟩ = some v := by
  simp only [World.cell?, h, Blk.toObj]
  simpa using hi
theorem add_addr (b o n : Nat) : (⟨b, o, none⟩ : Addr).add n = ⟨b, o + n, none⟩ := by
  unfold Addr.add
  split
  · rename_i h; subst h; rfl
  · rfl
theorem run_loadVar1 {P : Program} {w : World} {T : TypeId} {a : Addr} {v : Value} (hT : aggB P T = some false) (hc : w.cell? a = some v) : (loadVar T a).run P w = .ok v w := by
  simp only [loadVar, Sem.run_bind, run_isAgg hT, Result.andThen_ok]
  simp [hc]
theorem run_loadVarA {P : Program} {w : World} {T : TypeId} {a : Addr} {vs : List Value} (hT : aggB P T = some true) (hz : szB P T = some vs.length) (hc : ∀ j v, vs[j]? = some v → w.cell? (a.add j) = some v) :
    (loadVar T a).run P w = .ok (.agg vs.toArray) w := by
  simp only [loadVar, Sem.run_bind, run_isAgg hT, Result.andThen_ok, if_true, run_sizeOf hz, run_loadCells_list _ a vs hc]
  rfl
/-- n values from place o on. -/
def cut (cs : List Value) (o n : Nat) : List Value := (cs.drop o).take n
section
variable {X : Cx} {l : Tl} {L : Bl}
theorem Qt.mv {x : Operand} {v : Value} (hx : opv l x = some v) : Qt X l L (.move x) v := by
  intro d T p af g a w he _
  simp only [execOp, he.eval hx]; rfl
theorem Qt.asg {x : Operand} {v : Value} (hx : opv l x = some v) : Qt X l L (.assign x) v := by
  intro d T p af g a w he _
  simp only [execOp, he.eval hx]; rfl
theorem Qt.pick {c x y : Operand} {b : Bool} {u v : Value} (hc : opv l c = some (.bool b)) (hx : opv l x = some u) (hy : opv l y = some v) : Qt X l L (.pick c x y) (if b then u else v) := by
  intro d T p af g a w he _
  simp only [execOp, he.eval hc, he.eval hx, he.eval hy]
  cases b <;> simp [asBool]
theorem Qt.pickt {c x y : Operand} {u : Value} (hc : opv l c = some (.bool true)) (hx : opv l x = some u) : Qt X l L (.pick c x y) u := by
  intro d T p af g a w he _
  simp only [execOp, he.eval hc, he.eval hx]
  simp [asBool]
theorem Qt.pickf {c x y : Operand} {u : Value} (hc : opv l c = some (.bool false)) (hy : opv l y = some u) : Qt X l L (.pick c x y) u := by
  intro d T p af g a w he _
  simp only [execOp, he.eval hc, he.eval hy]
  simp [asBool]
theorem Qt.nilc {x : Operand} {a : Addr} (hx : opv l x = some (.pointer (some a))) : Qt X l L (.nilCheck x) (.pointer (some a)) := by
  intro d T p af g a w he _
  simp only [execOp, he.eval hx]; rfl
theorem Qt.fa {S i o n : Nat} {x : Operand} {b p : Nat} (hf : fldB X.P S i = some (o, n + 1)) (hx : opv l x = some (.pointer (some ⟨b, p, none⟩))) : Qt X l L (.fieldAddr S x i) (.pointer (some ⟨b, p + o, none⟩)) := by
  intro d T ps af g a w he _
  simp only [execOp, he.eval hx, Instr.fieldAt]
  unfold fldB at hf
  cases hu : X.P.underlying S with
  | none => simp [hu] at hf
  | some D =>
    simp only [hu] at hf
    cases D <;> simp at hf
    rename_i fs
    cases hfi : fs[i]? with
    | none => simp [hfi] at hf
    | some f =>
      simp only [hfi, Option.map_eq_some_iff] at hf
      obtain ⟨m, hm, e⟩ := hf
      simp only [Prod.mk.injEq] at e
      obtain ⟨e1, e2⟩ := e
      simp only [Sem.run_bind, run_und hu, Result.andThen_ok, hfi, Instr.sureAddr, fieldPlace, run_sizeOf hm]
      simp [e2, e1, add_addr]
theorem Qt.fa0 {S i o n : Nat} {x : Operand} {b : Nat} (hf : fldB X.P S i = some (o, n + 1)) (hx : opv l x = some (.pointer (some ⟨b, 0, none⟩))) : Qt X l L (.fieldAddr S x i) (.pointer (some ⟨b, o, none⟩)) := by
  have := Qt.fa (L := L) hf hx
  rwa [Nat.zero_add] at this
theorem Qt.ld1 {T : TypeId} {x : Operand} {b o : Nat} {cs : List Value} {E : TypeId} {v : Value} (hT : aggB X.P T = some false) (hx : opv l x = some (.pointer (some ⟨b, o, none⟩))) (hb : Rd X.F L b (.cells cs E)) (hc : cs[o]? = some v) :
    Qt X l L (.load T x) v := by
  intro d T ps af g a w he hs
  simp only [execOp, he.eval hx, Instr.loadAt, Instr.sureAddr]
  have := cell_of (hs.rd hb) hc
  simp [run_loadVar1 hT this]
/-- A load of a whole block. -/
theorem Qt.ldW {T : TypeId} {x : Operand} {b : Nat} {cs : List Value} {E : TypeId} (hT : aggB X.P T = some true) (hx : opv l x = some (.pointer (some ⟨b, 0, none⟩))) (hb : Rd X.F L b (.cells cs E)) (hz : szB X.P T = some cs.length) :
    Qt X l L (.load T x) (.agg cs.toArray) := by
  intro d T ps af g a w he hs
  simp only [execOp, he.eval hx, Instr.loadAt, Instr.sureAddr]
  have := run_loadVarA (w := w) (a := ⟨b, 0, none⟩) hT hz (fun j v hj => by rw [add_addr, Nat.zero_add]; exact cell_of (hs.rd hb) hj)
  simp [this]
theorem Qt.ext {x : Operand} {vs : List Value} {i : Nat} {v : Value} (hx : opv l x = some (.tuple vs.toArray)) (hi : vs[i]? = some v) : Qt X l L (.extract x i) v := by
  intro d T ps af g a w he hs
  have : vs.toArray[i]? = some v := by simpa using hi
  simp only [execOp, he.eval hx, Instr.extract, this]; rfl
theorem Qt.add {T T2 : TypeId} {k : IntKind} {x y : Operand} {p q r : Int} (hx : opv l x = some (.int k p)) (hy : opv l y = some (.int k q)) (hr : k.wrap (p + q) = r) : Qt X l L (.binOp .add T x y T2) (.int k r) := by
  intro d T ps af g a w he hs
  subst hr
  simp [execOp, he.eval hx, he.eval hy, eqGuard, binOp, Op.intArith]
theorem Qt.sub {T T2 : TypeId} {k : IntKind} {x y : Operand} {p q r : Int} (hx : opv l x = some (.int k p)) (hy : opv l y = some (.int k q)) (hr : k.wrap (p - q) = r) : Qt X l L (.binOp .sub T x y T2) (.int k r) := by
  intro d T ps af g a w he hs
  subst hr
  simp [execOp, he.eval hx, he.eval hy, eqGuard, binOp, Op.intArith]
theorem Qt.mul {T T2 : TypeId} {k : IntKind} {x y : Operand} {p q r : Int} (hx : opv l x = some (.int k p)) (hy : opv l y = some (.int k q)) (hr : k.wrap (p * q) = r) : Qt X l L (.binOp .mul T x y T2) (.int k r) := by
  intro d T ps af g a w he hs
  subst hr
  simp [execOp, he.eval hx, he.eval hy, eqGuard, binOp, Op.intArith]
theorem Qt.quo {T T2 : TypeId} {k : IntKind} {x y : Operand} {p q r : Int} (hx : opv l x = some (.int k p)) (hy : opv l y = some (.int k q)) (h0 : ¬ q = 0) (hr : k.wrap (p.tdiv q) = r) : Qt X l L (.binOp .quo T x y T2) (.int k r) := by
  intro d T ps af g a w he hs
  subst hr
  simp [execOp, he.eval hx, he.eval hy, eqGuard, binOp, Op.intDiv, h0]
theorem Qt.rem {T T2 : TypeId} {k : IntKind} {x y : Operand} {p q r : Int} (hx : opv l x = some (.int k p)) (hy : opv l y = some (.int k q)) (h0 : ¬ q = 0) (hr : p.tmod q = r) : Qt X l L (.binOp .rem T x y T2) (.int k r) := by
  intro d T ps af g a w he hs
  subst hr
  simp [execOp, he.eval hx, he.eval hy, eqGuard, binOp, Op.intDiv, h0]
def band (k : IntKind) (x y : Int) : Int := k.wrap (BitVec.ofInt k.bits x &&& BitVec.ofInt k.bits y).toNat
def bor (k : IntKind) (x y : Int) : Int := k.wrap (BitVec.ofInt k.bits x ||| BitVec.ofInt k.bits y).toNat
def bandn (k : IntKind) (x y : Int) : Int := k.wrap (BitVec.ofInt k.bits x &&& ~~~ BitVec.ofInt k.bits y).toNat
def shlv (k : IntKind) (x y : Int) : Int := k.wrap (x * 2 ^ (min y.toNat k.bits))
def shrv (k : IntKind) (x y : Int) : Int := x.fdiv (2 ^ (min y.toNat k.bits))
theorem Qt.and {T T2 : TypeId} {k : IntKind} {x y : Operand} {p q : Int} (hx : opv l x = some (.int k p)) (hy : opv l y = some (.int k q)) : Qt X l L (.binOp .and T x y T2) (.int k (band k p q)) := by
  intro d T ps af g a w he hs
  simp [execOp, he.eval hx, he.eval hy, eqGuard, binOp, Op.intBits, band]
theorem Qt.or {T T2 : TypeId} {k : IntKind} {x y : Operand} {p q : Int} (hx : opv l x = some (.int k p)) (hy : opv l y = some (.int k q)) : Qt X l L (.binOp .or T x y T2) (.int k (bor k p q)) := by
  intro d T ps af g a w he hs
  simp [execOp, he.eval hx, he.eval hy, eqGuard, binOp, Op.intBits, bor]
theorem Qt.andn {T T2 : TypeId} {k : IntKind} {x y : Operand} {p q : Int} (hx : opv l x = some (.int k p)) (hy : opv l y = some (.int k q)) : Qt X l L (.binOp .andNot T x y T2) (.int k (bandn k p q)) := by
  intro d T ps af g a w he hs
  simp [execOp, he.eval hx, he.eval hy, eqGuard, binOp, Op.intBits, bandn]
theorem Qt.shl {T T2 : TypeId} {k k2 : IntKind} {x y : Operand} {p q r : Int} (hx : opv l x = some (.int k p)) (hy : opv l y = some (.int k2 q)) (h0 : ¬ q < 0) (hr : shlv k p q = r) : Qt X l L (.binOp .shl T x y T2) (.int k r) := by
  intro d T ps af g a w he hs
  subst hr
  simp [execOp, he.eval hx, he.eval hy, eqGuard, binOp, Op.shift, shlv, h0]
theorem Qt.shr {T T2 : TypeId} {k k2 : IntKind} {x y : Operand} {p q r : Int} (hx : opv l x = some (.int k p)) (hy : opv l y = some (.int k2 q)) (h0 : ¬ q < 0) (hr : shrv k p q = r) : Qt X l L (.binOp .shr T x y T2) (.int k r) := by
  intro d T ps af g a w he hs
  subst hr
  simp [execOp, he.eval hx, he.eval hy, eqGuard, binOp, Op.shift, shrv, h0]
theorem Qt.lss {T T2 : TypeId} {k : IntKind} {x y : Operand} {p q : Int} (hx : opv l x = some (.int k p)) (hy : opv l y = some (.int k q)) : Qt X l L (.binOp .lss T x y T2) (.bool (decide (p < q))) := by
  intro d T ps af g a w he hs
  simp [execOp, he.eval hx, he.eval hy, eqGuard, binOp, Op.intCmp]
theorem Qt.leq {T T2 : TypeId} {k : IntKind} {x y : Operand} {p q : Int} (hx : opv l x = some (.int k p)) (hy : opv l y = some (.int k q)) : Qt X l L (.binOp .leq T x y T2) (.bool (decide (p ≤ q))) := by
  intro d T ps af g a w he hs
  simp [execOp, he.eval hx, he.eval hy, eqGuard, binOp, Op.intCmp]
theorem Qt.gtr {T T2 : TypeId} {k : IntKind} {x y : Operand} {p q : Int} (hx : opv l x = some (.int k p)) (hy : opv l y = some (.int k q)) : Qt X l L (.binOp .gtr T x y T2) (.bool (decide (q < p))) := by
  intro d T ps af g a w he hs
  simp [execOp, he.eval hx, he.eval hy, eqGuard, binOp, Op.intCmp]
theorem Qt.geq {T T2 : TypeId} {k : IntKind} {x y : Operand} {p q : Int} (hx : opv l x = some (.int k p)) (hy : opv l y = some (.int k q)) : Qt X l L (.binOp .geq T x y T2) (.bool (decide (q ≤ p))) := by
  intro d T ps af g a w he hs
  simp [execOp, he.eval hx, he.eval hy, eqGuard, binOp, Op.intCmp]
theorem Qt.eqI {T T2 : TypeId} {k : IntKind} {x y : Operand} {p q : Int} (hx : opv l x = some (.int k p)) (hy : opv l y = some (.int k q)) : Qt X l L (.binOp .eql T x y T2) (.bool (decide (p = q))) := by
  intro d T ps af g a w he hs
  simp [execOp, he.eval hx, he.eval hy, eqGuard, binOp, Op.intCmp]
  rfl
theorem Qt.neI {T T2 : TypeId} {k : IntKind} {x y : Operand} {p q : Int} (hx : opv l x = some (.int k p)) (hy : opv l y = some (.int k q)) : Qt X l L (.binOp .neq T x y T2) (.bool (decide (¬ p = q))) := by
  intro d T ps af g a w he hs
  simp [execOp, he.eval hx, he.eval hy, eqGuard, binOp, Op.intCmp]
  by_cases h : p = q <;> simp [h]
theorem Qt.eqG {T T2 : TypeId} {x y : Operand} {u v : Value} {b : Bool} (hx : opv l x = some u) (hy : opv l y = some v) (hi : ∀ k n, u ≠ .int k n) (hf : ∀ k n, u ≠ .float k n) (hc : ∀ k n m, u ≠ .complex k n m) (hs0 : ∀ s, u ≠ .string s)
    (hg : ∀ w, (eqGuard .eql T x y u v).run X.P w = .ok () w) (he0 : ∀ w, (Op.equal T u v).run X.P w = .ok b w) : Qt X l L (.binOp .eql T x y T2) (.bool b) := by
  intro d T ps af g a w he hs
  simp only [execOp, he.eval hx, he.eval hy, Sem.run_bind, hg, Result.andThen_ok]
  cases u <;> simp_all [binOp]
theorem Qt.neG {T T2 : TypeId} {x y : Operand} {u v : Value} {b : Bool} (hx : opv l x = some u) (hy : opv l y = some v) (hi : ∀ k n, u ≠ .int k n) (hf : ∀ k n, u ≠ .float k n) (hc : ∀ k n m, u ≠ .complex k n m) (hs0 : ∀ s, u ≠ .string s)
    (hg : ∀ w, (eqGuard .neq T x y u v).run X.P w = .ok () w) (he0 : ∀ w, (Op.equal T u v).run X.P w = .ok b w) : Qt X l L (.binOp .neq T x y T2) (.bool (!b)) := by
  intro d T ps af g a w he hs
  simp only [execOp, he.eval hx, he.eval hy, Sem.run_bind, hg, Result.andThen_ok]
  cases u <;> simp_all [binOp]
theorem equal_step {P : Program} {T : TypeId} {u v : Value} {b : Bool} (h : ∀ d w, (Op.equalIn (d + 1) T u v).run P w = .ok b w) (w : World) : (Op.equal T u v).run P w = .ok b w := h 9999 w
theorem Qt.eqPn {T T2 E : TypeId} {x y : Operand} {p : Option Addr} (hT : X.P.underlying T = some (.pointer E)) (hx : opv l x = some (.pointer p)) (hy : opv l y = some (.pointer none)) : Qt X l L (.binOp .eql T x y T2) (.bool p.isNone) :=
  Qt.eqG hx hy (by simp) (by simp) (by simp) (by simp) (by simp [eqGuard]) (equal_step fun d w => by cases p <;> simp [Op.equalIn, run_und hT])
theorem Qt.eqSn {T T2 E : TypeId} {x y : Operand} {p : Option Addr} {n c : Nat} (hT : X.P.underlying T = some (.slice E)) (hx : opv l x = some (.slice p n c)) (hy : opv l y = some (.slice none 0 0)) : Qt X l L (.binOp .eql T x y T2) (.bool p.isNone) :=
  Qt.eqG hx hy (by simp) (by simp) (by simp) (by simp) (by simp [eqGuard]) (equal_step fun d w => by cases p <;> simp [Op.equalIn, run_und hT])
theorem Qt.not {T : TypeId} {x : Operand} {p : Bool} (hx : opv l x = some (.bool p)) : Qt X l L (.unOp .not T x) (.bool (!p)) := by
  intro d T ps af g a w he hs
  simp [execOp, he.eval hx, Op.unary]
theorem Qt.conv {S T : TypeId} {x : Operand} {D : TypeDesc} {k k2 : IntKind} {p r : Int} (hS : X.P.underlying S = some D) (hT : X.P.underlying T = some (.int k2)) (hx : opv l x = some (.int k p)) (hr : k2.wrap p = r) : Qt X l L (.convert S T x) (.int k2 r) := by
  intro d T ps af g a w he hs
  subst hr
  simp [execOp, he.eval hx, convert, run_und hS, run_und hT, Conv.intToInt]
theorem Qt.lenS {T rt : TypeId} {x : Operand} {a : Option Addr} {n c : Nat} {E : TypeId} (hT : X.P.underlying T = some (.slice E)) (hx : opv l x = some (.slice a n c)) : Qt X l L (.call ⟨.builtin .len, #[x], #[T]⟩) (.int .i64 n) := by
  intro d T ps af g a w he hs
  simp [execOp, resolve, he.eval hx, invoke, builtin, Builtin.len_, run_und hT, goInt]
end
end Go.Sx
