/-
  baseboardref09's Log: base, header, newest, slot, Slots, end do what the models say; each contract's conditions are its premises.
-/
import Derived.Test.YtbeiciinppmekaaTb
import Derived.Test.YtbeiciinppmekaaLogd
import Derived.Test.YtbeiciinppmekaaProg
namespace Go.Proofs.Ytbeiciinppmekaa
open Go Go.Sx Go.Proofs
set_option maxRecDepth 100000
set_option linter.unusedSimpArgs false
set_option linter.unusedVariables false
/-- A log of baseboardref09. -/
structure Rl where
  first : Int
  S : Int
  over : Bool
  refused : Bool
  last : Int
  held : Bool
  ended : Bool
/-- What holds of a log over its device. -/
structure Rl.Fine (R : Rl) (D : Dev) : Prop where
  f0 : 0 ≤ R.first
  S2 : 2 ≤ R.S
  fS : R.first + R.S ≤ D.nw
  sz : 64 ≤ D.size
  l0 : 0 ≤ R.last
  l1 : R.last ≤ 65535
def Rl.base (R : Rl) (D : Dev) (j : Int) : Int := (R.first + j) * D.size
/-- The header of sector j: sequence number and tail, or zeros. -/
def Rl.hdr (R : Rl) (D : Dev) (j : Int) : Int × Int := if Hd.ok (secL D (R.base D j)) R.S j then (le4 (secL D (R.base D j)) 0, le4 (secL D (R.base D j)) 4) else (0, 0)
def Rl.newestN (R : Rl) (D : Dev) (k : Nat) : Int × Int := (List.range k).foldl (fun p (j : Nat) => if p.1 < (R.hdr D j).1 then R.hdr D j else p) (0, 0)
theorem Rl.newestN_succ (R : Rl) (D : Dev) (k : Nat) : R.newestN D (k + 1) = if (R.newestN D k).1 < (R.hdr D k).1 then R.hdr D k else R.newestN D k := by unfold Rl.newestN; rw [List.range_succ, List.foldl_append]; rfl
def Rl.newest (R : Rl) (D : Dev) : Int × Int := R.newestN D R.S.toNat
def slotR (sl : List Int) : Ev × Bool × Bool :=
  if blankL sl then (Ev.zero, false, true) else if ¬ ix sl 16 = 0 then (Ev.zero, false, false) else ((evDec (sl.take 16)).1, decide ((evDec (sl.take 16)).2 = 0) && decide (¬ (evDec (sl.take 16)).1.id = 0), false)
def slotE (sl : List Int) : Option Ev := if (slotR sl).2.1 then some (slotR sl).1 else none
def ofN (xs : List Int) (k : Nat) : List Ev := (List.range k).filterMap fun i => slotE (slotL xs i)
theorem ofN_some {xs : List Int} {k : Nat} (h : (slotR (slotL xs k)).2.1 = true) : ofN xs (k + 1) = ofN xs k ++ [(slotR (slotL xs k)).1] := by
  unfold ofN
  rw [List.range_succ, List.filterMap_append]
  simp [slotE, h]
theorem ofN_none {xs : List Int} {k : Nat} (h : (slotR (slotL xs k)).2.1 = false) : ofN xs (k + 1) = ofN xs k := by
  unfold ofN
  rw [List.range_succ, List.filterMap_append]
  simp [slotE, h]
theorem ofN_len (xs : List Int) (k : Nat) : (ofN xs k).length ≤ k := by
  unfold ofN
  have := List.length_filterMap_le (fun i => slotE (slotL xs i)) (List.range k)
  simpa using this
def Rl.ofS (R : Rl) (D : Dev) (j : Int) : List Ev := ofN (secL D (R.base D j)) (slotsN D.size.toNat)
theorem secL_len {R : Rl} {D : Dev} (h : D.Fine) {a : Int} (h0 : 0 ≤ a) (h1 : a + D.size ≤ D.n) : (secL D a).length = D.size.toNat := by
  have := h.ok.hn
  have := h.geo.size0
  simp only [secL, List.length_take, List.length_drop]; omega
theorem secL_bytes {D : Dev} (h : D.Fine) (a : Int) : Bytes (secL D a) := fun x hx => h.ok2.bytes x (List.mem_of_mem_drop (List.mem_of_mem_take hx))
theorem Rl.base_bd {R : Rl} {D : Dev} (h : D.Fine) (g : R.Fine D) {j : Int} (h0 : 0 ≤ j) (h1 : j < R.S) : 0 ≤ R.base D j ∧ R.base D j + D.size ≤ D.n := by
  have a0 := g.f0
  have a1 := g.fS
  have a2 := g.sz
  have a3 := h.geo.all
  have s0 : 0 ≤ (R.first + j) * D.size := Int.mul_nonneg (by omega) (by omega)
  have s1 : (R.first + j + 1) * D.size ≤ D.nw * D.size := Int.mul_le_mul_of_nonneg_right (by omega) (by omega)
  have s2 : (R.first + j + 1) * D.size = (R.first + j) * D.size + D.size := by rw [Int.add_mul, Int.one_mul]
  unfold Rl.base
  omega
end Go.Proofs.Ytbeiciinppmekaa
