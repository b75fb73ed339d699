/-
  baseboardmade's Mod, Roll, Light and its dice do what the models say; each contract's conditions are its premises.
-/
import Derived.Test.YtbeiciinppmekaaTb
import Derived.Test.YtbeiciinppmekaaEvb
import Derived.Test.YtbeiciinppmekaaProg
namespace Go.Proofs.Ytbeiciinppmekaa
open Go Go.Sx Go.Proofs
set_option maxRecDepth 100000
set_option linter.unusedSimpArgs false
set_option linter.unusedVariables false
/-- Dice: the numbers, and how many are gone. -/
structure Di where
  l : List Int
  n : Nat
def diC (D : Di) (A : Option Addr) (c : Nat) : List Value := [.slice A D.l.length c, .int .i64 D.n]
def Di.next (D : Di) (m : Int) : Int × Di := if D.n < D.l.length then (ix D.l D.n % m, { D with n := D.n + 1 }) else (0, D)
theorem Di.next_l (D : Di) (m : Int) : (D.next m).2.l = D.l := by unfold Di.next; split <;> rfl
theorem Di.next_lt (D : Di) {m : Int} (h : 0 < m) : 0 ≤ (D.next m).1 ∧ (D.next m).1 < m := by
  unfold Di.next
  split
  · exact ⟨Int.emod_nonneg _ (by omega), Int.emod_lt_of_pos _ h⟩
  · exact ⟨Int.le_refl 0, h⟩
def Di.bool (D : Di) (m : Int) : Bool × Di := (decide ((D.next m).1 = m - 1), (D.next m).2)
def limL : List Int := [0, 1, 127, 128, 254, 255, 15, 240]
def Di.byte (D : Di) : Int × Di := if (D.bool 3).1 then (ix limL ((D.bool 3).2.next 8).1.toNat, ((D.bool 3).2.next 8).2) else ((D.bool 3).2.next 256)
def typL : List Int := [1, 111, 127, 3]
def Di.event (D : Di) : Ev × Di :=
  let a := D.next 2000000
  let g := a.2.next 65536
  let s1 := g.2.byte
  let s2 := s1.2.byte
  let t := s2.2.next 4
  let de := t.2.bool 2
  let x0 := de.2.byte
  let x1 := x0.2.byte
  let x2 := x1.2.byte
  let z := x2.2.bool 8
  (⟨0, if z.1 then 4294967294 else a.1, g.1, s1.1, s2.1, ix typL t.1.toNat, de.1, x0.1, x1.1, x2.1⟩, z.2)
theorem tmod_fix {n m : Int} (h : 0 < m) : (if n.tmod m < 0 then n.tmod m + m else n.tmod m) = n % m := by
  have h1 := Int.emod_nonneg n (show m ≠ 0 by omega)
  have h2 := Int.emod_lt_of_pos n h
  have h3 : (m.natAbs : Int) = m := Int.natAbs_of_nonneg (by omega)
  have h4 : n % m = 0 → m ∣ n := Int.dvd_of_emod_eq_zero
  rw [Int.tmod_eq_emod]
  by_cases hc : 0 ≤ n ∨ m ∣ n
  · rw [if_pos hc, if_neg (by omega)]; omega
  · have h5 : n % m ≠ 0 := fun e => hc (Or.inr (h4 e))
    rw [if_neg hc, h3, if_pos (by omega)]; omega
theorem tmod_bd {n m : Int} (h : 0 < m) : - m ≤ n.tmod m ∧ n.tmod m < m := by
  have := tmod_fix (n := n) h
  have h1 := Int.emod_nonneg n (show m ≠ 0 by omega)
  have h2 := Int.emod_lt_of_pos n h
  split at this <;> omega
theorem mod_ct (F : Fr) (n m : Int) (h0 : 0 < m) (h1 : m ≤ 2147483648) :
    Ct Try.prog F 10 [.int .i64 n, .int .i64 m] [] (S := Unit) (fun _ => True) (fun _ => .int .i64 (n % m)) (fun _ => []) := by
 have hb := tmod_bd (n := n) h0
 have hf := tmod_fix (n := n) h0
 have hw : IntKind.i64.wrap (n.tmod m) = n.tmod m := i64_id (by omega) (by omega)
 refine Ct.of 14 [(0, _), (1, _)] Try.func10 rfl rfl rfl rfl ?_
 refine GC.seq (GC.region ?_)
 refine G.q Gd.no (Qt.asg rfl) rfl ?_
 refine G.nil (GK.then (GC.seq (GC.region ?_)))
 refine G.q Gd.no (Qt.mv rfl) rfl ?_
 refine G.q Gd.no (Qt.mv rfl) rfl ?_
 refine G.q Gd.no (Qt.rem rfl rfl (by omega) rfl) rfl ?_
 refine G.q Gd.no (Qt.asg rfl) rfl ?_
 refine G.nil (GK.then (GC.seq (GC.seq (GC.region ?_))))
 refine G.q Gd.no (Qt.mv rfl) rfl ?_
 refine G.q Gd.no (Qt.lss rfl rfl) rfl ?_
 refine G.nil (GK.then ?_)
 refine GC.condb rfl (fun c0 => ?_) (fun c0 => ?_)
 ·try simp only [sB0, sB1, sB2, sB3, sB4, sB5, sB6, sB7, sB8] at c0
  refine GC.region ?_
  refine G.q Gd.no (Qt.mv rfl) rfl ?_
  refine G.q Gd.no (Qt.mv rfl) rfl ?_
  refine G.q Gd.no (Qt.add rfl rfl (by first | exact i64_id (by omega) (by omega) | exact rfl)) rfl ?_
  refine G.q Gd.no (Qt.asg rfl) rfl ?_
  refine G.nil (GK.then (GC.seq (GC.region ?_)))
  refine G.q Gd.no (Qt.mv rfl) rfl ?_
  refine G.q Gd.no (Qt.asg rfl) rfl ?_
  refine G.nil (GK.then (GC.ret ?_))
  rw [if_pos c0] at hf
  rw [hf]
  refine GK.ret (rs := [.tmp 4]) rfl (.tmp rfl .nil) () ?_ ?_ (.nil _)
  ·trivial
  ·rfl
 ·try simp only [sB0, sB1, sB2, sB3, sB4, sB5, sB6, sB7, sB8] at c0
  refine GC.skip (GK.then (GC.seq (GC.region ?_)))
  refine G.q Gd.no (Qt.mv rfl) rfl ?_
  refine G.q Gd.no (Qt.asg rfl) rfl ?_
  refine G.nil (GK.then (GC.ret ?_))
  rw [if_neg c0] at hf
  rw [hf]
  refine GK.ret (rs := [.tmp 4]) rfl (.tmp rfl .nil) () ?_ ?_ (.nil _)
  ·trivial
  ·rfl
theorem roll_ct (F : Fr) (A : Option Addr) (n c : Nat) (l : List Int) (hl : l.length = n) :
    Ct Try.prog F 12 [.slice A n c] [] (S := Nat) (fun _ => True) (fun x => .pointer (some ⟨x, 0, none⟩)) (fun x => [(some x, .cells (diC ⟨l, 0⟩ A c) 76)]) := by
 subst hl
 refine Ct.of 6 [(0, _)] Try.func12 rfl rfl rfl rfl ?_
 refine GC.seq (GC.region ?_)
 refine G.q Gd.no (Qt.asg rfl) rfl ?_
 refine G.nil (GK.then (GC.seq (GC.region ?_)))
 refine G.q Gd.no (Qt.mv rfl) rfl ?_
 refine G.q Gd.no (Qt.buildS Try.underlying76 pl76 ze76 (.cons rfl rfl (by first | exact Cl.one rfl | exact Cl.agg) rfl (SetM.cons SetAt.k0 (.nil _ _)) (.nil _))) rfl ?_
 refine G.ld Gd.no (Ld.box rfl rfl (by first | exact Cl.one rfl | exact Cl.agg) (fun b5 => ?_))
 refine G.q Gd.no (Qt.asg rfl) rfl ?_
 refine G.nil (GK.then (GC.ret ?_))
 refine GK.ret (rs := [.tmp 2]) rfl (.tmp rfl .nil) b5 ?_ ?_ (Tks.c (.nil _))
 ·trivial
 ·rfl
theorem mlight_ct (F : Fr) (A : Option Addr) (n c : Nat) :
    Ct Try.prog F 6 [.slice A n c] [] (S := Unit) (fun _ => True) (fun _ => .bool (decide (n ≤ 600))) (fun _ => []) := by
 refine Ct.of 6 [(0, _)] Try.func6 rfl rfl rfl rfl ?_
 refine GC.seq (GC.region ?_)
 refine G.q Gd.no (Qt.asg rfl) rfl ?_
 refine G.nil (GK.then (GC.seq (GC.region ?_)))
 refine G.q Gd.no (Qt.mv rfl) rfl ?_
 refine G.q Gd.no (Qt.lenS (rt := 0) Try.underlying22 rfl) rfl ?_
 refine G.q Gd.no (Qt.leq rfl rfl) rfl ?_
 refine G.q Gd.no (Qt.asg rfl) rfl ?_
 refine G.nil (GK.then (GC.ret ?_))
 refine GK.ret (rs := [.tmp 2]) rfl (.tmp rfl .nil) () ?_ ?_ (.nil _)
 ·trivial
 ·exact congrArg Value.bool (by rw [decide_eq_decide]; omega)
theorem next_ct (F : Fr) (b : Nat) (A : Option Addr) (c : Nat) (D : Di) (hA : VwF F A (vI .i64 D.l)) (hl : D.l.length ≤ 1000) (m : Int) (h0 : 0 < m) (h1 : m ≤ 2147483648) :
    Ct Try.prog F 39 [.pointer (some ⟨b, 0, none⟩), .int .i64 m] [(some b, .cells (diC D A c) 76)] (S := Unit) (fun _ => True) (fun _ => .int .i64 (D.next m).1) (fun _ => [(some b, .cells (diC (D.next m).2 A c) 76)]) := by
 refine Ct.of 35 [(0, _), (1, _)] Try.func39 rfl rfl rfl rfl ?_
 refine GC.seq (GC.region ?_)
 refine G.q Gd.no (Qt.asg rfl) rfl ?_
 refine G.nil (GK.then (GC.seq (GC.seq ?_)))
 refine GC.draw mixed _ Held.all ?_
 refine GT 0 1 rfl (by kernel_rfl) rfl rfl Gd.no (Qt.mv rfl) Held.c ?_
 refine GT 1 3 rfl (by kernel_rfl) rfl rfl Gd.no (Qt.nilc rfl) Held.c ?_
 refine GT 2 7 rfl (by kernel_rfl) rfl rfl Gd.no (Qt.fa0 fl76_1 rfl) Held.c ?_
 refine GT 3 15 rfl (by kernel_rfl) rfl rfl Gd.no (Qt.ldc a3 rfl (by first | exact Rdc.o rfl | exact Rdc.o (nth_vIs (by omega)) | exact Rdc.o (nth_vI (by omega)))) Held.c ?_
 refine GT 4 31 rfl (by kernel_rfl) rfl rfl Gd.no (Qt.mv rfl) Held.c ?_
 refine GT 5 63 rfl (by kernel_rfl) rfl rfl Gd.no (Qt.nilc rfl) Held.c ?_
 refine GT 6 127 rfl (by kernel_rfl) rfl rfl Gd.no (Qt.fa0 fl76_0 rfl) Held.c ?_
 refine GT 7 255 rfl (by kernel_rfl) rfl rfl Gd.no (Qt.ldc a22 rfl (by first | exact Rdc.o rfl | exact Rdc.o (nth_vIs (by omega)) | exact Rdc.o (nth_vI (by omega)))) Held.c ?_
 refine GT 8 511 rfl (by kernel_rfl) rfl rfl Gd.no (Qt.lenS (rt := 0) Try.underlying22 rfl) Held.c ?_
 refine GT 9 1023 rfl (by kernel_rfl) rfl rfl Gd.no (Qt.geq rfl rfl) Held.c ?_
 refine GH.done (by kernel_rfl) ?_
 refine GK.then ?_
 refine GC.condb rfl (fun c0 => ?_) (fun c0 => ?_)
 ·try simp only [sB0, sB1, sB2, sB3, sB4, sB5, sB6, sB7, sB8] at c0
  refine GC.seq (GC.region ?_)
  refine G.q Gd.no (Qt.asg rfl) rfl ?_
  refine G.nil (GK.then (GC.ret (GK.thenr ?_)))
  rw [show D.next m = (0, D) from if_neg (by omega)]
  refine GK.ret (rs := [.tmp 4]) rfl (.tmp rfl .nil) () ?_ ?_ (Tks.c (.nil _))
  ·trivial
  ·rfl
 ·try simp only [sB0, sB1, sB2, sB3, sB4, sB5, sB6, sB7, sB8] at c0
  have hlt : D.n < D.l.length := by omega
  obtain ⟨ad, hAd⟩ := hA.some' (by rw [vI_length]; omega)
  subst hAd
  refine GC.skip (GK.then (GC.seq (GC.region ?_)))
  refine G.q Gd.no (Qt.mv rfl) rfl ?_
  refine G.q Gd.no (Qt.nilc rfl) rfl ?_
  refine G.q Gd.no (Qt.fa0 fl76_1 rfl) rfl ?_
  refine G.q Gd.no (Qt.ldc a3 rfl (by first | exact Rdc.o rfl | exact Rdc.o (nth_vIs (by omega)) | exact Rdc.o (nth_vI (by omega)))) rfl ?_
  refine G.q Gd.no (Qt.add rfl rfl (by first | exact i64_id (by omega) (by omega) | exact rfl)) rfl ?_
  refine G.q Gd.no (Qt.nilc rfl) rfl ?_
  refine G.q Gd.no (Qt.fa0 fl76_1 rfl) rfl ?_
  refine G.ld Gd.no (Ld.stc z3 rfl rfl rfl (Stc.o SetAt.k1) ?_)
  refine G.nil (GK.then (GC.seq ?_))
  refine GC.draw mixed _ Held.all ?_
  refine GT 0 1 rfl (by kernel_rfl) rfl rfl Gd.no (Qt.mv rfl) Held.c ?_
  refine GT 1 3 rfl (by kernel_rfl) rfl rfl Gd.no (Qt.nilc rfl) Held.c ?_
  refine GT 2 7 rfl (by kernel_rfl) rfl rfl Gd.no (Qt.fa0 fl76_0 rfl) Held.c ?_
  refine GT 3 15 rfl (by kernel_rfl) rfl rfl Gd.no (Qt.ldc a22 rfl (by first | exact Rdc.o rfl | exact Rdc.o (nth_vIs (by omega)) | exact Rdc.o (nth_vI (by omega)))) Held.c ?_
  refine GT 4 31 rfl (by kernel_rfl) rfl rfl Gd.no (Qt.mv rfl) Held.c ?_
  refine GT 5 63 rfl (by kernel_rfl) rfl rfl Gd.no (Qt.nilc rfl) Held.c ?_
  refine GT 6 127 rfl (by kernel_rfl) rfl rfl Gd.no (Qt.fa0 fl76_1 rfl) Held.c ?_
  refine GT 7 255 rfl (by kernel_rfl) rfl rfl Gd.no (Qt.ldc a3 rfl (by first | exact Rdc.o rfl | exact Rdc.o (nth_vIs (by omega)) | exact Rdc.o (nth_vI (by omega)))) Held.c ?_
  refine GT 8 511 rfl (by kernel_rfl) rfl rfl Gd.no (Qt.sub rfl rfl (by first | exact i64_id (by omega) (by omega) | exact rfl)) Held.c ?_
  rw [show (D.n : Int) + 1 - 1 = D.n by omega]
  refine GT 9 1023 rfl (by kernel_rfl) rfl rfl Gd.no (Qt.ia1 Try.underlying22 z3 rfl rfl (by omega) (by omega) (show ((D.n : Nat) : Int).toNat = D.n from rfl)) Held.c ?_
  refine GT 10 2047 rfl (by kernel_rfl) rfl rfl Gd.no (Qt.ldF a3 rfl (hA.at' (nth_vI hlt))) Held.c ?_
  refine GT 11 4095 rfl (by kernel_rfl) rfl rfl Gd.no (Qt.mv rfl) Held.c ?_
  refine GO 12 8191 (by kernel_rfl) rfl rfl Gd.no (Ld.call cal10 rfl rfl (.nil _) (fun F' hF => mod_ct F' _ _ (by omega) (by omega)) (fun _ _ => ?_))
  dsimp only [lCa, lNa]
  refine ⟨Held.c, ?_⟩
  refine GT 13 16383 rfl (by kernel_rfl) rfl rfl Gd.no (Qt.asg rfl) Held.c ?_
  refine GH.done (by kernel_rfl) ?_
  refine GK.then (GC.ret ?_)
  rw [show D.next m = (ix D.l D.n % m, { D with n := D.n + 1 }) from if_pos hlt]
  refine GK.ret (rs := [.tmp 4]) rfl (.tmp rfl .nil) () ?_ ?_ (Tks.c (.nil _))
  ·trivial
  ·rfl
theorem Di.bool_l (D : Di) (m : Int) : (D.bool m).2.l = D.l := D.next_l m
theorem Di.byte_l (D : Di) : D.byte.2.l = D.l := by
  unfold Di.byte
  split
  · simp only [Di.next_l, Di.bool_l]
  · simp only [Di.next_l, Di.bool_l]
theorem bool_ct (F : Fr) (b : Nat) (A : Option Addr) (c : Nat) (D : Di) (hA : VwF F A (vI .i64 D.l)) (hl : D.l.length ≤ 1000) (m : Int) (h0 : 0 < m) (h1 : m ≤ 2147483648) :
    Ct Try.prog F 41 [.pointer (some ⟨b, 0, none⟩), .int .i64 m] [(some b, .cells (diC D A c) 76)] (S := Unit) (fun _ => True) (fun _ => .bool (D.bool m).1) (fun _ => [(some b, .cells (diC (D.bool m).2 A c) 76)]) := by
 refine Ct.of 11 [(0, _), (1, _)] Try.func41 rfl rfl rfl rfl ?_
 refine GC.seq (GC.region ?_)
 refine G.q Gd.no (Qt.asg rfl) rfl ?_
 refine G.nil (GK.then (GC.seq (GC.region ?_)))
 refine G.q Gd.no (Qt.mv rfl) rfl ?_
 refine G.q Gd.no (Qt.mv rfl) rfl ?_
 refine G.ld Gd.no (Ld.call cal39 rfl rfl (Tks.c (.nil _)) (fun F' hF => next_ct F' b A c _ (by first | exact hA.mono hF | (simp only [Di.next_l, Di.bool_l, Di.byte_l]; exact hA.mono hF)) (by first | exact hl | (simp only [Di.next_l, Di.bool_l, Di.byte_l]; exact hl)) _ (by omega) (by omega)) (fun _ _ => ?_))
 dsimp only [lCa, lNa]
 refine G.q Gd.no (Qt.mv rfl) rfl ?_
 refine G.q Gd.no (Qt.sub rfl rfl (by first | exact i64_id (by omega) (by omega) | exact rfl)) rfl ?_
 refine G.q Gd.no (Qt.eqI rfl rfl) rfl ?_
 refine G.q Gd.no (Qt.asg rfl) rfl ?_
 refine G.nil (GK.then (GC.ret ?_))
 refine GK.ret (rs := [.tmp 4]) rfl (.tmp rfl .nil) () ?_ ?_ (Tks.c (.nil _))
 ·trivial
 ·rfl
theorem byte_ct (F : Fr) (b : Nat) (A : Option Addr) (c : Nat) (D : Di) (hA : VwF F A (vI .i64 D.l)) (hl : D.l.length ≤ 1000) :
    Ct Try.prog F 40 [.pointer (some ⟨b, 0, none⟩)] [(some b, .cells (diC D A c) 76)] (S := Unit) (fun _ => True) (fun _ => .int .u8 D.byte.1) (fun _ => [(some b, .cells (diC D.byte.2 A c) 76)]) := by
 have n8 := Di.next_lt (D.bool 3).2 (m := 8) (by decide)
 have n256 := Di.next_lt (D.bool 3).2 (m := 256) (by decide)
 refine Ct.of 14 [(0, _)] Try.func40 rfl rfl rfl rfl ?_
 refine GC.seq (GC.region ?_)
 refine G.q Gd.no (Qt.asg rfl) rfl ?_
 refine G.nil (GK.then (GC.seq (GC.region ?_)))
 refine G.q Gd.no (Qt.buildA Try.underlying112 z5 ze112 (.cons rfl rfl (by first | exact Cl.one rfl | exact Cl.agg) rfl (SetM.cons SetAt.k0 (.nil _ _)) (.cons rfl rfl (by first | exact Cl.one rfl | exact Cl.agg) rfl (SetM.cons SetAt.k1 (.nil _ _)) (.cons rfl rfl (by first | exact Cl.one rfl | exact Cl.agg) rfl (SetM.cons SetAt.k2 (.nil _ _)) (.cons rfl rfl (by first | exact Cl.one rfl | exact Cl.agg) rfl (SetM.cons SetAt.k3 (.nil _ _)) (.cons rfl rfl (by first | exact Cl.one rfl | exact Cl.agg) rfl (SetM.cons SetAt.k4 (.nil _ _)) (.cons rfl rfl (by first | exact Cl.one rfl | exact Cl.agg) rfl (SetM.cons SetAt.k5 (.nil _ _)) (.cons rfl rfl (by first | exact Cl.one rfl | exact Cl.agg) rfl (SetM.cons SetAt.k6 (.nil _ _)) (.cons rfl rfl (by first | exact Cl.one rfl | exact Cl.agg) rfl (SetM.cons SetAt.k7 (.nil _ _)) (.nil _)))))))))) rfl ?_
 refine G.ld Gd.no (Ld.alloc rfl ze112 (by first | exact Cl.one rfl | exact Cl.agg) (fun b3 => ?_))
 refine G.ld Gd.no (Ld.stW (by exact z112) rfl rfl (by simp [Value.oneCell']) (E := 112) (by rfl) UpdC.u ?_)
 refine G.nil (GK.then (GC.seq (GC.seq (GC.region ?_))))
 refine G.q Gd.no (Qt.mv rfl) rfl ?_
 refine G.ld Gd.no (Ld.call cal41 rfl rfl (Tks.c (.nil _)) (fun F' hF => bool_ct F' b A c _ (by first | exact hA.mono hF | (simp only [Di.next_l, Di.bool_l, Di.byte_l]; exact hA.mono hF)) (by first | exact hl | (simp only [Di.next_l, Di.bool_l, Di.byte_l]; exact hl)) _ (by omega) (by omega)) (fun _ _ => ?_))
 dsimp only [lCa, lNa]
 refine G.nil (GK.then ?_)
 refine GC.condb rfl (fun c0 => ?_) (fun c0 => ?_)
 ·try simp only [sB0, sB1, sB2, sB3, sB4, sB5, sB6, sB7, sB8] at c0
  refine GC.seq (GC.region ?_)
  refine G.q Gd.no (Qt.mv rfl) rfl ?_
  refine G.ld Gd.no (Ld.call cal39 rfl rfl (Tks.c (.nil _)) (fun F' hF => next_ct F' b A c _ (by first | exact hA.mono hF | (simp only [Di.next_l, Di.bool_l, Di.byte_l]; exact hA.mono hF)) (by first | exact hl | (simp only [Di.next_l, Di.bool_l, Di.byte_l]; exact hl)) _ (by omega) (by omega)) (fun _ _ => ?_))
  dsimp only [lCa, lNa]
  refine G.q Gd.no (by first | exact Qt.iaa01 Try.underlying112 z5 rfl rfl (by omega) (by omega) (rfl : ((D.bool 3).2.next 8).1.toNat = ((D.bool 3).2.next 8).1.toNat) | exact Qt.iaa1 Try.underlying112 z5 rfl rfl (by omega) (by omega) (rfl : ((D.bool 3).2.next 8).1.toNat = ((D.bool 3).2.next 8).1.toNat)) rfl ?_
  refine G.q Gd.no (Qt.ldc a5 rfl (Rdc.o (nth_vI (k := .u8) (xs := limL) (by show _ < 8; omega)))) rfl ?_
  refine G.q Gd.no (Qt.asg rfl) rfl ?_
  refine G.nil (GK.then (GC.ret (GK.thenr ?_)))
  rw [show D.byte = (ix limL ((D.bool 3).2.next 8).1.toNat, ((D.bool 3).2.next 8).2) from if_pos c0]
  refine GK.ret (rs := [.tmp 2]) rfl (.tmp rfl .nil) () ?_ ?_ (Tks.c (.nil _))
  ·trivial
  ·rfl
 ·try simp only [sB0, sB1, sB2, sB3, sB4, sB5, sB6, sB7, sB8] at c0
  refine GC.skip (GK.then (GC.seq (GC.region ?_)))
  refine G.q Gd.no (Qt.mv rfl) rfl ?_
  refine G.ld Gd.no (Ld.call cal39 rfl rfl (Tks.c (.nil _)) (fun F' hF => next_ct F' b A c _ (by first | exact hA.mono hF | (simp only [Di.next_l, Di.bool_l, Di.byte_l]; exact hA.mono hF)) (by first | exact hl | (simp only [Di.next_l, Di.bool_l, Di.byte_l]; exact hl)) _ (by omega) (by omega)) (fun _ _ => ?_))
  dsimp only [lCa, lNa]
  refine G.q Gd.no (Qt.conv Try.underlying3 Try.underlying5 rfl (by first | exact u8_id (by omega) (by omega) | exact rfl)) rfl ?_
  refine G.q Gd.no (Qt.asg rfl) rfl ?_
  refine G.nil (GK.then (GC.ret ?_))
  rw [show D.byte = (D.bool 3).2.next 256 from if_neg (by simp [c0])]
  refine GK.ret (rs := [.tmp 2]) rfl (.tmp rfl .nil) () ?_ ?_ (Tks.c (.nil _))
  ·trivial
  ·rfl
set_option maxHeartbeats 1600000 in
theorem event_ct (F : Fr) (b : Nat) (A : Option Addr) (c : Nat) (D : Di) (hA : VwF F A (vI .i64 D.l)) (hl : D.l.length ≤ 1000) :
    Ct Try.prog F 13 [.pointer (some ⟨b, 0, none⟩)] [(some b, .cells (diC D A c) 76)] (S := Unit) (fun _ => True) (fun _ => .agg (evC D.event.1).toArray) (fun _ => [(some b, .cells (diC D.event.2 A c) 76)]) := by
 refine Ct.of 34 [(0, _)] Try.func13 rfl rfl rfl rfl ?_
 obtain ⟨RR, hRR⟩ : ∃ RR, D.event = RR := ⟨_, rfl⟩
 rw [hRR]
 have hlD : D.l = D.l := rfl
 refine GC.seq (GC.region ?_)
 refine G.ld Gd.no (Ld.alloc rfl ze40 (by first | exact Cl.one rfl | exact Cl.agg) (fun b2 => ?_))
 refine G.nil (GK.then (GC.seq (GC.region ?_)))
 refine G.q Gd.no (Qt.buildA Try.underlying77 z5 ze77 (.cons rfl rfl (by first | exact Cl.one rfl | exact Cl.agg) rfl (SetM.cons SetAt.k0 (.nil _ _)) (.cons rfl rfl (by first | exact Cl.one rfl | exact Cl.agg) rfl (SetM.cons SetAt.k1 (.nil _ _)) (.cons rfl rfl (by first | exact Cl.one rfl | exact Cl.agg) rfl (SetM.cons SetAt.k2 (.nil _ _)) (.cons rfl rfl (by first | exact Cl.one rfl | exact Cl.agg) rfl (SetM.cons SetAt.k3 (.nil _ _)) (.nil _)))))) rfl ?_
 refine G.ld Gd.no (Ld.alloc rfl ze77 (by first | exact Cl.one rfl | exact Cl.agg) (fun b3 => ?_))
 refine G.ld Gd.no (Ld.stW (by exact z77) rfl rfl (by simp [Value.oneCell']) (E := 77) (by rfl) UpdC.u ?_)
 refine G.nil (GK.then (GC.seq ?_))
 refine GC.draw mixed _ (Held.tk (b := some b3) Held.none) ?_
 refine GT 0 1 rfl (by kernel_rfl) rfl rfl Gd.no (Qt.mv rfl) Held.c ?_
 refine GT 3 9 rfl (by kernel_rfl) rfl rfl Gd.no (Qt.mv rfl) Held.c ?_
 refine GT 6 73 rfl (by kernel_rfl) rfl rfl Gd.no (Qt.mv rfl) Held.c ?_
 refine GT 8 329 rfl (by kernel_rfl) rfl rfl Gd.no (Qt.mv rfl) Held.c ?_
 refine GT 10 1353 rfl (by kernel_rfl) rfl rfl Gd.no (Qt.mv rfl) Held.c ?_
 refine GT 14 17737 rfl (by kernel_rfl) rfl rfl Gd.no (Qt.mv rfl) Held.c ?_
 refine GT 16 83273 rfl (by kernel_rfl) rfl rfl Gd.no (Qt.mv rfl) Held.c ?_
 refine GT 18 345417 rfl (by kernel_rfl) rfl rfl Gd.no (Qt.mv rfl) Held.c ?_
 refine GT 20 1393993 rfl (by kernel_rfl) rfl rfl Gd.no (Qt.mv rfl) Held.c ?_
 refine GH.two (i := 1) (j := 24) (by kernel_rfl) rfl rfl  (rfl : _ = 1393995) (rfl : _ = 18171209) Gd.no Gd.no (Ld.call cal39 rfl rfl (Tks.c (.nil _)) (fun F' hF => next_ct F' b A c D (by rw [hlD]; exact hA.mono hF) (by rw [hlD]; exact hl) 2000000 (by omega) (by omega)) (fun _ _ => ?_)) (Ld.alloc rfl ze40 (by first | exact Cl.one rfl | exact Cl.agg) (fun b4 => ?_))
 ·skip
  dsimp only [lCa, lNa]
  obtain ⟨a, D1, hD1⟩ : ∃ x y, D.next 2000000 = (x, y) := ⟨_, _, rfl⟩
  have hlD1 : D1.l = D.l := by have := Di.next_l D 2000000; rw [hD1] at this; rw [← hlD]; exact this
  have hbD1 : 0 ≤ a ∧ a < 2000000 := by have := Di.next_lt D (m := 2000000) (by decide); rw [hD1] at this; exact this
  rw [hD1]
  dsimp only
  refine ⟨Held.c, ?_⟩
  refine GT 2 1393999 rfl (by kernel_rfl) rfl rfl Gd.no (Qt.conv Try.underlying3 Try.underlying37 rfl (by first | exact u32_id (by omega) (by omega) | exact rfl)) Held.c ?_
  refine GH.two (i := 4) (j := 24) (by kernel_rfl) rfl rfl  (rfl : _ = 1394015) (rfl : _ = 18171215) Gd.no Gd.no (Ld.call cal39 rfl rfl (Tks.c (.nil _)) (fun F' hF => next_ct F' b A c D1 (by rw [hlD1]; exact hA.mono hF) (by rw [hlD1]; exact hl) 65536 (by omega) (by omega)) (fun _ _ => ?_)) (Ld.alloc rfl ze40 (by first | exact Cl.one rfl | exact Cl.agg) (fun b4 => ?_))
  ·skip
   dsimp only [lCa, lNa]
   obtain ⟨g, D2, hD2⟩ : ∃ x y, D1.next 65536 = (x, y) := ⟨_, _, rfl⟩
   have hlD2 : D2.l = D.l := by have := Di.next_l D1 65536; rw [hD2] at this; rw [← hlD1]; exact this
   have hbD2 : 0 ≤ g ∧ g < 65536 := by have := Di.next_lt D1 (m := 65536) (by decide); rw [hD2] at this; exact this
   rw [hD2]
   dsimp only
   refine ⟨Held.c, ?_⟩
   refine GT 5 1394047 rfl (by kernel_rfl) rfl rfl Gd.no (Qt.conv Try.underlying3 Try.underlying36 rfl (by first | exact u16_id (by omega) (by omega) | exact rfl)) Held.c ?_
   refine GH.two (i := 7) (j := 24) (by kernel_rfl) rfl rfl  (rfl : _ = 1394175) (rfl : _ = 18171263) Gd.no Gd.no (Ld.call cal40 rfl rfl (Tks.c (.nil _)) (fun F' hF => byte_ct F' b A c D2 (by rw [hlD2]; exact hA.mono hF) (by rw [hlD2]; exact hl)) (fun _ _ => ?_)) (Ld.alloc rfl ze40 (by first | exact Cl.one rfl | exact Cl.agg) (fun b4 => ?_))
   ·skip
    dsimp only [lCa, lNa]
    obtain ⟨s1, D3, hD3⟩ : ∃ x y, D2.byte = (x, y) := ⟨_, _, rfl⟩
    have hlD3 : D3.l = D.l := by have := Di.byte_l D2; rw [hD3] at this; rw [← hlD2]; exact this
    rw [hD3]
    dsimp only
    refine ⟨Held.c, ?_⟩
    refine GH.two (i := 9) (j := 24) (by kernel_rfl) rfl rfl  (rfl : _ = 1394687) (rfl : _ = 18171391) Gd.no Gd.no (Ld.call cal40 rfl rfl (Tks.c (.nil _)) (fun F' hF => byte_ct F' b A c D3 (by rw [hlD3]; exact hA.mono hF) (by rw [hlD3]; exact hl)) (fun _ _ => ?_)) (Ld.alloc rfl ze40 (by first | exact Cl.one rfl | exact Cl.agg) (fun b4 => ?_))
    ·skip
     dsimp only [lCa, lNa]
     obtain ⟨s2, D4, hD4⟩ : ∃ x y, D3.byte = (x, y) := ⟨_, _, rfl⟩
     have hlD4 : D4.l = D.l := by have := Di.byte_l D3; rw [hD4] at this; rw [← hlD3]; exact this
     rw [hD4]
     dsimp only
     refine ⟨Held.c, ?_⟩
     refine GH.two (i := 11) (j := 24) (by kernel_rfl) rfl rfl  (rfl : _ = 1396735) (rfl : _ = 18171903) Gd.no Gd.no (Ld.call cal39 rfl rfl (Tks.c (.nil _)) (fun F' hF => next_ct F' b A c D4 (by rw [hlD4]; exact hA.mono hF) (by rw [hlD4]; exact hl) 4 (by omega) (by omega)) (fun _ _ => ?_)) (Ld.alloc rfl ze40 (by first | exact Cl.one rfl | exact Cl.agg) (fun b4 => ?_))
     ·skip
      dsimp only [lCa, lNa]
      obtain ⟨t, D5, hD5⟩ : ∃ x y, D4.next 4 = (x, y) := ⟨_, _, rfl⟩
      have hlD5 : D5.l = D.l := by have := Di.next_l D4 4; rw [hD5] at this; rw [← hlD4]; exact this
      have hbD5 : 0 ≤ t ∧ t < 4 := by have := Di.next_lt D4 (m := 4) (by decide); rw [hD5] at this; exact this
      rw [hD5]
      dsimp only
      refine ⟨Held.c, ?_⟩
      refine GT 12 1400831 rfl (by kernel_rfl) rfl rfl Gd.no (by first | exact Qt.iaa01 Try.underlying77 z5 rfl rfl (by omega) (by omega) (rfl : t.toNat = t.toNat) | exact Qt.iaa1 Try.underlying77 z5 rfl rfl (by omega) (by omega) (rfl : t.toNat = t.toNat)) Held.c ?_
      refine GT 13 1409023 rfl (by kernel_rfl) rfl rfl Gd.no (Qt.ldc a5 rfl (Rdc.o (nth_vI (k := .u8) (xs := typL) (by show _ < 4; omega)))) Held.c ?_
      refine GH.two (i := 15) (j := 24) (by kernel_rfl) rfl rfl  (rfl : _ = 1441791) (rfl : _ = 18186239) Gd.no Gd.no (Ld.call cal41 rfl rfl (Tks.c (.nil _)) (fun F' hF => bool_ct F' b A c D5 (by rw [hlD5]; exact hA.mono hF) (by rw [hlD5]; exact hl) 2 (by omega) (by omega)) (fun _ _ => ?_)) (Ld.alloc rfl ze40 (by first | exact Cl.one rfl | exact Cl.agg) (fun b4 => ?_))
      ·skip
       dsimp only [lCa, lNa]
       obtain ⟨de, D6, hD6⟩ : ∃ x y, D5.bool 2 = (x, y) := ⟨_, _, rfl⟩
       have hlD6 : D6.l = D.l := by have := Di.bool_l D5 2; rw [hD6] at this; rw [← hlD5]; exact this
       rw [hD6]
       dsimp only
       refine ⟨Held.c, ?_⟩
       refine GH.two (i := 17) (j := 24) (by kernel_rfl) rfl rfl  (rfl : _ = 1572863) (rfl : _ = 18219007) Gd.no Gd.no (Ld.call cal40 rfl rfl (Tks.c (.nil _)) (fun F' hF => byte_ct F' b A c D6 (by rw [hlD6]; exact hA.mono hF) (by rw [hlD6]; exact hl)) (fun _ _ => ?_)) (Ld.alloc rfl ze40 (by first | exact Cl.one rfl | exact Cl.agg) (fun b4 => ?_))
       ·skip
        dsimp only [lCa, lNa]
        obtain ⟨x0, D7, hD7⟩ : ∃ x y, D6.byte = (x, y) := ⟨_, _, rfl⟩
        have hlD7 : D7.l = D.l := by have := Di.byte_l D6; rw [hD7] at this; rw [← hlD6]; exact this
        rw [hD7]
        dsimp only
        refine ⟨Held.c, ?_⟩
        refine GH.two (i := 19) (j := 24) (by kernel_rfl) rfl rfl  (rfl : _ = 2097151) (rfl : _ = 18350079) Gd.no Gd.no (Ld.call cal40 rfl rfl (Tks.c (.nil _)) (fun F' hF => byte_ct F' b A c D7 (by rw [hlD7]; exact hA.mono hF) (by rw [hlD7]; exact hl)) (fun _ _ => ?_)) (Ld.alloc rfl ze40 (by first | exact Cl.one rfl | exact Cl.agg) (fun b4 => ?_))
        ·skip
         dsimp only [lCa, lNa]
         obtain ⟨x1, D8, hD8⟩ : ∃ x y, D7.byte = (x, y) := ⟨_, _, rfl⟩
         have hlD8 : D8.l = D.l := by have := Di.byte_l D7; rw [hD8] at this; rw [← hlD7]; exact this
         rw [hD8]
         dsimp only
         refine ⟨Held.c, ?_⟩
         refine GH.two (i := 21) (j := 24) (by kernel_rfl) rfl rfl  (rfl : _ = 4194303) (rfl : _ = 18874367) Gd.no Gd.no (Ld.call cal40 rfl rfl (Tks.c (.nil _)) (fun F' hF => byte_ct F' b A c D8 (by rw [hlD8]; exact hA.mono hF) (by rw [hlD8]; exact hl)) (fun _ _ => ?_)) (Ld.alloc rfl ze40 (by first | exact Cl.one rfl | exact Cl.agg) (fun b4 => ?_))
         ·skip
          dsimp only [lCa, lNa]
          obtain ⟨x2, D9, hD9⟩ : ∃ x y, D8.byte = (x, y) := ⟨_, _, rfl⟩
          have hlD9 : D9.l = D.l := by have := Di.byte_l D8; rw [hD9] at this; rw [← hlD8]; exact this
          rw [hD9]
          dsimp only
          refine ⟨Held.c, ?_⟩
          refine GT 22 8388607 rfl (by kernel_rfl) rfl rfl Gd.no (Qt.buildA Try.underlying38 z5 ze38 (.cons rfl rfl (by first | exact Cl.one rfl | exact Cl.agg) rfl (SetM.cons SetAt.k0 (.nil _ _)) (.cons rfl rfl (by first | exact Cl.one rfl | exact Cl.agg) rfl (SetM.cons SetAt.k1 (.nil _ _)) (.cons rfl rfl (by first | exact Cl.one rfl | exact Cl.agg) rfl (SetM.cons SetAt.k2 (.nil _ _)) (.nil _))))) Held.c ?_
          refine GT 23 16777215 rfl (by kernel_rfl) rfl rfl Gd.no (Qt.buildS Try.underlying40 pl40 ze40 (.cons rfl rfl (by first | exact Cl.one rfl | exact Cl.agg) rfl (SetM.cons SetAt.k1 (.nil _ _)) (.cons rfl rfl (by first | exact Cl.one rfl | exact Cl.agg) rfl (SetM.cons SetAt.k2 (.nil _ _)) (.cons rfl rfl (by first | exact Cl.one rfl | exact Cl.agg) rfl (SetM.cons SetAt.k3 (.nil _ _)) (.cons rfl rfl (by first | exact Cl.one rfl | exact Cl.agg) rfl (SetM.cons SetAt.k4 (.nil _ _)) (.cons rfl rfl (by first | exact Cl.one rfl | exact Cl.agg) rfl (SetM.cons SetAt.k5 (.nil _ _)) (.cons rfl rfl (by first | exact Cl.one rfl | exact Cl.agg) rfl (SetM.cons SetAt.k6 (.nil _ _)) (.cons rfl rfl (by first | exact Cl.one rfl | exact Cl.agg) rfl (by repeat constructor) (.nil _))))))))) Held.c ?_
          refine GO 24 33554431 (by kernel_rfl) rfl rfl Gd.no (Ld.alloc rfl ze40 (by first | exact Cl.one rfl | exact Cl.agg) (fun b4 => ?_))
          refine ⟨Held.c, ?_⟩
          refine GO 25 67108863 (by kernel_rfl) rfl rfl Gd.no (Ld.stW (by exact z40) rfl rfl (by simp [Value.oneCell']) (E := 40) (by rfl) UpdC.u ?_)
          refine ⟨Held.c, ?_⟩
          refine GH.done (by kernel_rfl) ?_
          refine GK.then (GC.seq (GC.seq (GC.region ?_)))
          refine G.q Gd.no (Qt.mv rfl) rfl ?_
          refine G.ld Gd.no (Ld.call cal41 rfl rfl (Tks.c (.nil _)) (fun F' hF => bool_ct F' b A c D9 (by rw [hlD9]; exact hA.mono hF) (by rw [hlD9]; exact hl) 8 (by omega) (by omega)) (fun _ _ => ?_))
          dsimp only [lCa, lNa]
          obtain ⟨z, D10, hD10⟩ : ∃ x y, D9.bool 8 = (x, y) := ⟨_, _, rfl⟩
          have hlD10 : D10.l = D.l := by have := Di.bool_l D9 8; rw [hD10] at this; rw [← hlD9]; exact this
          rw [hD10]
          dsimp only
          refine G.nil (GK.then ?_)
          refine GC.condb rfl (fun c0 => ?_) (fun c0 => ?_)
          ·try simp only [sB0, sB1, sB2, sB3, sB4, sB5, sB6, sB7, sB8] at c0
           refine GC.region ?_
           refine G.q Gd.no (Qt.fa0 fl40_1 rfl) rfl ?_
           refine G.ld Gd.no (Ld.stc z37 rfl rfl rfl (Stc.o SetAt.k1) ?_)
           refine G.nil (GK.then (GC.seq (GC.region ?_)))
           refine G.q Gd.no (Qt.ldW a40 rfl Rd.o z40) rfl ?_
           refine G.ld Gd.no (Ld.stW (by exact z40) rfl rfl (by simp [Value.oneCell']) (E := 40) (by rfl) UpdC.u ?_)
           refine G.nil (GK.then (GC.ret ?_))
           rw [show RR = (⟨0, 4294967294, g, s1, s2, ix typL t.toNat, de, x0, x1, x2⟩, D10) from by rw [← hRR]; simp only [Di.event, hD1, hD2, hD3, hD4, hD5, hD6, hD7, hD8, hD9, hD10, c0, if_true]]
           refine GK.ret (rs := [.cell 2 40]) rfl (.cellW rfl a40 (by exact z40) Rd.o .nil) () ?_ ?_ (Tks.c (.nil _))
           ·trivial
           ·rfl
          ·try simp only [sB0, sB1, sB2, sB3, sB4, sB5, sB6, sB7, sB8] at c0
           refine GC.skip (GK.then (GC.seq (GC.region ?_)))
           refine G.q Gd.no (Qt.ldW a40 rfl Rd.o z40) rfl ?_
           refine G.ld Gd.no (Ld.stW (by exact z40) rfl rfl (by simp [Value.oneCell']) (E := 40) (by rfl) UpdC.u ?_)
           refine G.nil (GK.then (GC.ret ?_))
           rw [show RR = (⟨0, a, g, s1, s2, ix typL t.toNat, de, x0, x1, x2⟩, D10) from by rw [← hRR]; simp only [Di.event, hD1, hD2, hD3, hD4, hD5, hD6, hD7, hD8, hD9, hD10, c0, Bool.false_eq_true, if_false]]
           refine GK.ret (rs := [.cell 2 40]) rfl (.cellW rfl a40 (by exact z40) Rd.o .nil) () ?_ ?_ (Tks.c (.nil _))
           ·trivial
           ·rfl
         ·skip
          refine ⟨Held.c, ?_⟩
          refine GO 21 20971519 (by kernel_rfl) rfl rfl Gd.no (Ld.call cal40 rfl rfl (Tks.c (.nil _)) (fun F' hF => byte_ct F' b A c D8 (by rw [hlD8]; exact hA.mono hF) (by rw [hlD8]; exact hl)) (fun _ _ => ?_))
          dsimp only [lCa, lNa]
          obtain ⟨x2, D9, hD9⟩ : ∃ x y, D8.byte = (x, y) := ⟨_, _, rfl⟩
          have hlD9 : D9.l = D.l := by have := Di.byte_l D8; rw [hD9] at this; rw [← hlD8]; exact this
          rw [hD9]
          dsimp only
          refine ⟨Held.c, ?_⟩
          refine GT 22 25165823 rfl (by kernel_rfl) rfl rfl Gd.no (Qt.buildA Try.underlying38 z5 ze38 (.cons rfl rfl (by first | exact Cl.one rfl | exact Cl.agg) rfl (SetM.cons SetAt.k0 (.nil _ _)) (.cons rfl rfl (by first | exact Cl.one rfl | exact Cl.agg) rfl (SetM.cons SetAt.k1 (.nil _ _)) (.cons rfl rfl (by first | exact Cl.one rfl | exact Cl.agg) rfl (SetM.cons SetAt.k2 (.nil _ _)) (.nil _))))) Held.c ?_
          refine GT 23 33554431 rfl (by kernel_rfl) rfl rfl Gd.no (Qt.buildS Try.underlying40 pl40 ze40 (.cons rfl rfl (by first | exact Cl.one rfl | exact Cl.agg) rfl (SetM.cons SetAt.k1 (.nil _ _)) (.cons rfl rfl (by first | exact Cl.one rfl | exact Cl.agg) rfl (SetM.cons SetAt.k2 (.nil _ _)) (.cons rfl rfl (by first | exact Cl.one rfl | exact Cl.agg) rfl (SetM.cons SetAt.k3 (.nil _ _)) (.cons rfl rfl (by first | exact Cl.one rfl | exact Cl.agg) rfl (SetM.cons SetAt.k4 (.nil _ _)) (.cons rfl rfl (by first | exact Cl.one rfl | exact Cl.agg) rfl (SetM.cons SetAt.k5 (.nil _ _)) (.cons rfl rfl (by first | exact Cl.one rfl | exact Cl.agg) rfl (SetM.cons SetAt.k6 (.nil _ _)) (.cons rfl rfl (by first | exact Cl.one rfl | exact Cl.agg) rfl (by repeat constructor) (.nil _))))))))) Held.c ?_
          refine GO 25 67108863 (by kernel_rfl) rfl rfl Gd.no (Ld.stW (by exact z40) rfl rfl (by simp [Value.oneCell']) (E := 40) (by rfl) UpdC.u ?_)
          refine ⟨Held.c, ?_⟩
          refine GH.done (by kernel_rfl) ?_
          refine GK.then (GC.seq (GC.seq (GC.region ?_)))
          refine G.q Gd.no (Qt.mv rfl) rfl ?_
          refine G.ld Gd.no (Ld.call cal41 rfl rfl (Tks.c (.nil _)) (fun F' hF => bool_ct F' b A c D9 (by rw [hlD9]; exact hA.mono hF) (by rw [hlD9]; exact hl) 8 (by omega) (by omega)) (fun _ _ => ?_))
          dsimp only [lCa, lNa]
          obtain ⟨z, D10, hD10⟩ : ∃ x y, D9.bool 8 = (x, y) := ⟨_, _, rfl⟩
          have hlD10 : D10.l = D.l := by have := Di.bool_l D9 8; rw [hD10] at this; rw [← hlD9]; exact this
          rw [hD10]
          dsimp only
          refine G.nil (GK.then ?_)
          refine GC.condb rfl (fun c1 => ?_) (fun c1 => ?_)
          ·try simp only [sB0, sB1, sB2, sB3, sB4, sB5, sB6, sB7, sB8] at c1
           refine GC.region ?_
           refine G.q Gd.no (Qt.fa0 fl40_1 rfl) rfl ?_
           refine G.ld Gd.no (Ld.stc z37 rfl rfl rfl (Stc.o SetAt.k1) ?_)
           refine G.nil (GK.then (GC.seq (GC.region ?_)))
           refine G.q Gd.no (Qt.ldW a40 rfl Rd.o z40) rfl ?_
           refine G.ld Gd.no (Ld.stW (by exact z40) rfl rfl (by simp [Value.oneCell']) (E := 40) (by rfl) UpdC.u ?_)
           refine G.nil (GK.then (GC.ret ?_))
           rw [show RR = (⟨0, 4294967294, g, s1, s2, ix typL t.toNat, de, x0, x1, x2⟩, D10) from by rw [← hRR]; simp only [Di.event, hD1, hD2, hD3, hD4, hD5, hD6, hD7, hD8, hD9, hD10, c1, if_true]]
           refine GK.ret (rs := [.cell 2 40]) rfl (.cellW rfl a40 (by exact z40) Rd.o .nil) () ?_ ?_ (Tks.c (.nil _))
           ·trivial
           ·rfl
          ·try simp only [sB0, sB1, sB2, sB3, sB4, sB5, sB6, sB7, sB8] at c1
           refine GC.skip (GK.then (GC.seq (GC.region ?_)))
           refine G.q Gd.no (Qt.ldW a40 rfl Rd.o z40) rfl ?_
           refine G.ld Gd.no (Ld.stW (by exact z40) rfl rfl (by simp [Value.oneCell']) (E := 40) (by rfl) UpdC.u ?_)
           refine G.nil (GK.then (GC.ret ?_))
           rw [show RR = (⟨0, a, g, s1, s2, ix typL t.toNat, de, x0, x1, x2⟩, D10) from by rw [← hRR]; simp only [Di.event, hD1, hD2, hD3, hD4, hD5, hD6, hD7, hD8, hD9, hD10, c1, Bool.false_eq_true, if_false]]
           refine GK.ret (rs := [.cell 2 40]) rfl (.cellW rfl a40 (by exact z40) Rd.o .nil) () ?_ ?_ (Tks.c (.nil _))
           ·trivial
           ·rfl
        ·skip
         refine ⟨Held.c, ?_⟩
         refine GO 19 18874367 (by kernel_rfl) rfl rfl Gd.no (Ld.call cal40 rfl rfl (Tks.c (.nil _)) (fun F' hF => byte_ct F' b A c D7 (by rw [hlD7]; exact hA.mono hF) (by rw [hlD7]; exact hl)) (fun _ _ => ?_))
         dsimp only [lCa, lNa]
         obtain ⟨x1, D8, hD8⟩ : ∃ x y, D7.byte = (x, y) := ⟨_, _, rfl⟩
         have hlD8 : D8.l = D.l := by have := Di.byte_l D7; rw [hD8] at this; rw [← hlD7]; exact this
         rw [hD8]
         dsimp only
         refine ⟨Held.c, ?_⟩
         refine GO 21 20971519 (by kernel_rfl) rfl rfl Gd.no (Ld.call cal40 rfl rfl (Tks.c (.nil _)) (fun F' hF => byte_ct F' b A c D8 (by rw [hlD8]; exact hA.mono hF) (by rw [hlD8]; exact hl)) (fun _ _ => ?_))
         dsimp only [lCa, lNa]
         obtain ⟨x2, D9, hD9⟩ : ∃ x y, D8.byte = (x, y) := ⟨_, _, rfl⟩
         have hlD9 : D9.l = D.l := by have := Di.byte_l D8; rw [hD9] at this; rw [← hlD8]; exact this
         rw [hD9]
         dsimp only
         refine ⟨Held.c, ?_⟩
         refine GT 22 25165823 rfl (by kernel_rfl) rfl rfl Gd.no (Qt.buildA Try.underlying38 z5 ze38 (.cons rfl rfl (by first | exact Cl.one rfl | exact Cl.agg) rfl (SetM.cons SetAt.k0 (.nil _ _)) (.cons rfl rfl (by first | exact Cl.one rfl | exact Cl.agg) rfl (SetM.cons SetAt.k1 (.nil _ _)) (.cons rfl rfl (by first | exact Cl.one rfl | exact Cl.agg) rfl (SetM.cons SetAt.k2 (.nil _ _)) (.nil _))))) Held.c ?_
         refine GT 23 33554431 rfl (by kernel_rfl) rfl rfl Gd.no (Qt.buildS Try.underlying40 pl40 ze40 (.cons rfl rfl (by first | exact Cl.one rfl | exact Cl.agg) rfl (SetM.cons SetAt.k1 (.nil _ _)) (.cons rfl rfl (by first | exact Cl.one rfl | exact Cl.agg) rfl (SetM.cons SetAt.k2 (.nil _ _)) (.cons rfl rfl (by first | exact Cl.one rfl | exact Cl.agg) rfl (SetM.cons SetAt.k3 (.nil _ _)) (.cons rfl rfl (by first | exact Cl.one rfl | exact Cl.agg) rfl (SetM.cons SetAt.k4 (.nil _ _)) (.cons rfl rfl (by first | exact Cl.one rfl | exact Cl.agg) rfl (SetM.cons SetAt.k5 (.nil _ _)) (.cons rfl rfl (by first | exact Cl.one rfl | exact Cl.agg) rfl (SetM.cons SetAt.k6 (.nil _ _)) (.cons rfl rfl (by first | exact Cl.one rfl | exact Cl.agg) rfl (by repeat constructor) (.nil _))))))))) Held.c ?_
         refine GO 25 67108863 (by kernel_rfl) rfl rfl Gd.no (Ld.stW (by exact z40) rfl rfl (by simp [Value.oneCell']) (E := 40) (by rfl) UpdC.u ?_)
         refine ⟨Held.c, ?_⟩
         refine GH.done (by kernel_rfl) ?_
         refine GK.then (GC.seq (GC.seq (GC.region ?_)))
         refine G.q Gd.no (Qt.mv rfl) rfl ?_
         refine G.ld Gd.no (Ld.call cal41 rfl rfl (Tks.c (.nil _)) (fun F' hF => bool_ct F' b A c D9 (by rw [hlD9]; exact hA.mono hF) (by rw [hlD9]; exact hl) 8 (by omega) (by omega)) (fun _ _ => ?_))
         dsimp only [lCa, lNa]
         obtain ⟨z, D10, hD10⟩ : ∃ x y, D9.bool 8 = (x, y) := ⟨_, _, rfl⟩
         have hlD10 : D10.l = D.l := by have := Di.bool_l D9 8; rw [hD10] at this; rw [← hlD9]; exact this
         rw [hD10]
         dsimp only
         refine G.nil (GK.then ?_)
         refine GC.condb rfl (fun c2 => ?_) (fun c2 => ?_)
         ·try simp only [sB0, sB1, sB2, sB3, sB4, sB5, sB6, sB7, sB8] at c2
          refine GC.region ?_
          refine G.q Gd.no (Qt.fa0 fl40_1 rfl) rfl ?_
          refine G.ld Gd.no (Ld.stc z37 rfl rfl rfl (Stc.o SetAt.k1) ?_)
          refine G.nil (GK.then (GC.seq (GC.region ?_)))
          refine G.q Gd.no (Qt.ldW a40 rfl Rd.o z40) rfl ?_
          refine G.ld Gd.no (Ld.stW (by exact z40) rfl rfl (by simp [Value.oneCell']) (E := 40) (by rfl) UpdC.u ?_)
          refine G.nil (GK.then (GC.ret ?_))
          rw [show RR = (⟨0, 4294967294, g, s1, s2, ix typL t.toNat, de, x0, x1, x2⟩, D10) from by rw [← hRR]; simp only [Di.event, hD1, hD2, hD3, hD4, hD5, hD6, hD7, hD8, hD9, hD10, c2, if_true]]
          refine GK.ret (rs := [.cell 2 40]) rfl (.cellW rfl a40 (by exact z40) Rd.o .nil) () ?_ ?_ (Tks.c (.nil _))
          ·trivial
          ·rfl
         ·try simp only [sB0, sB1, sB2, sB3, sB4, sB5, sB6, sB7, sB8] at c2
          refine GC.skip (GK.then (GC.seq (GC.region ?_)))
          refine G.q Gd.no (Qt.ldW a40 rfl Rd.o z40) rfl ?_
          refine G.ld Gd.no (Ld.stW (by exact z40) rfl rfl (by simp [Value.oneCell']) (E := 40) (by rfl) UpdC.u ?_)
          refine G.nil (GK.then (GC.ret ?_))
          rw [show RR = (⟨0, a, g, s1, s2, ix typL t.toNat, de, x0, x1, x2⟩, D10) from by rw [← hRR]; simp only [Di.event, hD1, hD2, hD3, hD4, hD5, hD6, hD7, hD8, hD9, hD10, c2, Bool.false_eq_true, if_false]]
          refine GK.ret (rs := [.cell 2 40]) rfl (.cellW rfl a40 (by exact z40) Rd.o .nil) () ?_ ?_ (Tks.c (.nil _))
          ·trivial
          ·rfl
       ·skip
        refine ⟨Held.c, ?_⟩
        refine GO 17 18350079 (by kernel_rfl) rfl rfl Gd.no (Ld.call cal40 rfl rfl (Tks.c (.nil _)) (fun F' hF => byte_ct F' b A c D6 (by rw [hlD6]; exact hA.mono hF) (by rw [hlD6]; exact hl)) (fun _ _ => ?_))
        dsimp only [lCa, lNa]
        obtain ⟨x0, D7, hD7⟩ : ∃ x y, D6.byte = (x, y) := ⟨_, _, rfl⟩
        have hlD7 : D7.l = D.l := by have := Di.byte_l D6; rw [hD7] at this; rw [← hlD6]; exact this
        rw [hD7]
        dsimp only
        refine ⟨Held.c, ?_⟩
        refine GO 19 18874367 (by kernel_rfl) rfl rfl Gd.no (Ld.call cal40 rfl rfl (Tks.c (.nil _)) (fun F' hF => byte_ct F' b A c D7 (by rw [hlD7]; exact hA.mono hF) (by rw [hlD7]; exact hl)) (fun _ _ => ?_))
        dsimp only [lCa, lNa]
        obtain ⟨x1, D8, hD8⟩ : ∃ x y, D7.byte = (x, y) := ⟨_, _, rfl⟩
        have hlD8 : D8.l = D.l := by have := Di.byte_l D7; rw [hD8] at this; rw [← hlD7]; exact this
        rw [hD8]
        dsimp only
        refine ⟨Held.c, ?_⟩
        refine GO 21 20971519 (by kernel_rfl) rfl rfl Gd.no (Ld.call cal40 rfl rfl (Tks.c (.nil _)) (fun F' hF => byte_ct F' b A c D8 (by rw [hlD8]; exact hA.mono hF) (by rw [hlD8]; exact hl)) (fun _ _ => ?_))
        dsimp only [lCa, lNa]
        obtain ⟨x2, D9, hD9⟩ : ∃ x y, D8.byte = (x, y) := ⟨_, _, rfl⟩
        have hlD9 : D9.l = D.l := by have := Di.byte_l D8; rw [hD9] at this; rw [← hlD8]; exact this
        rw [hD9]
        dsimp only
        refine ⟨Held.c, ?_⟩
        refine GT 22 25165823 rfl (by kernel_rfl) rfl rfl Gd.no (Qt.buildA Try.underlying38 z5 ze38 (.cons rfl rfl (by first | exact Cl.one rfl | exact Cl.agg) rfl (SetM.cons SetAt.k0 (.nil _ _)) (.cons rfl rfl (by first | exact Cl.one rfl | exact Cl.agg) rfl (SetM.cons SetAt.k1 (.nil _ _)) (.cons rfl rfl (by first | exact Cl.one rfl | exact Cl.agg) rfl (SetM.cons SetAt.k2 (.nil _ _)) (.nil _))))) Held.c ?_
        refine GT 23 33554431 rfl (by kernel_rfl) rfl rfl Gd.no (Qt.buildS Try.underlying40 pl40 ze40 (.cons rfl rfl (by first | exact Cl.one rfl | exact Cl.agg) rfl (SetM.cons SetAt.k1 (.nil _ _)) (.cons rfl rfl (by first | exact Cl.one rfl | exact Cl.agg) rfl (SetM.cons SetAt.k2 (.nil _ _)) (.cons rfl rfl (by first | exact Cl.one rfl | exact Cl.agg) rfl (SetM.cons SetAt.k3 (.nil _ _)) (.cons rfl rfl (by first | exact Cl.one rfl | exact Cl.agg) rfl (SetM.cons SetAt.k4 (.nil _ _)) (.cons rfl rfl (by first | exact Cl.one rfl | exact Cl.agg) rfl (SetM.cons SetAt.k5 (.nil _ _)) (.cons rfl rfl (by first | exact Cl.one rfl | exact Cl.agg) rfl (SetM.cons SetAt.k6 (.nil _ _)) (.cons rfl rfl (by first | exact Cl.one rfl | exact Cl.agg) rfl (by repeat constructor) (.nil _))))))))) Held.c ?_
        refine GO 25 67108863 (by kernel_rfl) rfl rfl Gd.no (Ld.stW (by exact z40) rfl rfl (by simp [Value.oneCell']) (E := 40) (by rfl) UpdC.u ?_)
        refine ⟨Held.c, ?_⟩
        refine GH.done (by kernel_rfl) ?_
        refine GK.then (GC.seq (GC.seq (GC.region ?_)))
        refine G.q Gd.no (Qt.mv rfl) rfl ?_
        refine G.ld Gd.no (Ld.call cal41 rfl rfl (Tks.c (.nil _)) (fun F' hF => bool_ct F' b A c D9 (by rw [hlD9]; exact hA.mono hF) (by rw [hlD9]; exact hl) 8 (by omega) (by omega)) (fun _ _ => ?_))
        dsimp only [lCa, lNa]
        obtain ⟨z, D10, hD10⟩ : ∃ x y, D9.bool 8 = (x, y) := ⟨_, _, rfl⟩
        have hlD10 : D10.l = D.l := by have := Di.bool_l D9 8; rw [hD10] at this; rw [← hlD9]; exact this
        rw [hD10]
        dsimp only
        refine G.nil (GK.then ?_)
        refine GC.condb rfl (fun c3 => ?_) (fun c3 => ?_)
        ·try simp only [sB0, sB1, sB2, sB3, sB4, sB5, sB6, sB7, sB8] at c3
         refine GC.region ?_
         refine G.q Gd.no (Qt.fa0 fl40_1 rfl) rfl ?_
         refine G.ld Gd.no (Ld.stc z37 rfl rfl rfl (Stc.o SetAt.k1) ?_)
         refine G.nil (GK.then (GC.seq (GC.region ?_)))
         refine G.q Gd.no (Qt.ldW a40 rfl Rd.o z40) rfl ?_
         refine G.ld Gd.no (Ld.stW (by exact z40) rfl rfl (by simp [Value.oneCell']) (E := 40) (by rfl) UpdC.u ?_)
         refine G.nil (GK.then (GC.ret ?_))
         rw [show RR = (⟨0, 4294967294, g, s1, s2, ix typL t.toNat, de, x0, x1, x2⟩, D10) from by rw [← hRR]; simp only [Di.event, hD1, hD2, hD3, hD4, hD5, hD6, hD7, hD8, hD9, hD10, c3, if_true]]
         refine GK.ret (rs := [.cell 2 40]) rfl (.cellW rfl a40 (by exact z40) Rd.o .nil) () ?_ ?_ (Tks.c (.nil _))
         ·trivial
         ·rfl
        ·try simp only [sB0, sB1, sB2, sB3, sB4, sB5, sB6, sB7, sB8] at c3
         refine GC.skip (GK.then (GC.seq (GC.region ?_)))
         refine G.q Gd.no (Qt.ldW a40 rfl Rd.o z40) rfl ?_
         refine G.ld Gd.no (Ld.stW (by exact z40) rfl rfl (by simp [Value.oneCell']) (E := 40) (by rfl) UpdC.u ?_)
         refine G.nil (GK.then (GC.ret ?_))
         rw [show RR = (⟨0, a, g, s1, s2, ix typL t.toNat, de, x0, x1, x2⟩, D10) from by rw [← hRR]; simp only [Di.event, hD1, hD2, hD3, hD4, hD5, hD6, hD7, hD8, hD9, hD10, c3, Bool.false_eq_true, if_false]]
         refine GK.ret (rs := [.cell 2 40]) rfl (.cellW rfl a40 (by exact z40) Rd.o .nil) () ?_ ?_ (Tks.c (.nil _))
         ·trivial
         ·rfl
      ·skip
       refine ⟨Held.c, ?_⟩
       refine GO 15 18219007 (by kernel_rfl) rfl rfl Gd.no (Ld.call cal41 rfl rfl (Tks.c (.nil _)) (fun F' hF => bool_ct F' b A c D5 (by rw [hlD5]; exact hA.mono hF) (by rw [hlD5]; exact hl) 2 (by omega) (by omega)) (fun _ _ => ?_))
       dsimp only [lCa, lNa]
       obtain ⟨de, D6, hD6⟩ : ∃ x y, D5.bool 2 = (x, y) := ⟨_, _, rfl⟩
       have hlD6 : D6.l = D.l := by have := Di.bool_l D5 2; rw [hD6] at this; rw [← hlD5]; exact this
       rw [hD6]
       dsimp only
       refine ⟨Held.c, ?_⟩
       refine GO 17 18350079 (by kernel_rfl) rfl rfl Gd.no (Ld.call cal40 rfl rfl (Tks.c (.nil _)) (fun F' hF => byte_ct F' b A c D6 (by rw [hlD6]; exact hA.mono hF) (by rw [hlD6]; exact hl)) (fun _ _ => ?_))
       dsimp only [lCa, lNa]
       obtain ⟨x0, D7, hD7⟩ : ∃ x y, D6.byte = (x, y) := ⟨_, _, rfl⟩
       have hlD7 : D7.l = D.l := by have := Di.byte_l D6; rw [hD7] at this; rw [← hlD6]; exact this
       rw [hD7]
       dsimp only
       refine ⟨Held.c, ?_⟩
       refine GO 19 18874367 (by kernel_rfl) rfl rfl Gd.no (Ld.call cal40 rfl rfl (Tks.c (.nil _)) (fun F' hF => byte_ct F' b A c D7 (by rw [hlD7]; exact hA.mono hF) (by rw [hlD7]; exact hl)) (fun _ _ => ?_))
       dsimp only [lCa, lNa]
       obtain ⟨x1, D8, hD8⟩ : ∃ x y, D7.byte = (x, y) := ⟨_, _, rfl⟩
       have hlD8 : D8.l = D.l := by have := Di.byte_l D7; rw [hD8] at this; rw [← hlD7]; exact this
       rw [hD8]
       dsimp only
       refine ⟨Held.c, ?_⟩
       refine GO 21 20971519 (by kernel_rfl) rfl rfl Gd.no (Ld.call cal40 rfl rfl (Tks.c (.nil _)) (fun F' hF => byte_ct F' b A c D8 (by rw [hlD8]; exact hA.mono hF) (by rw [hlD8]; exact hl)) (fun _ _ => ?_))
       dsimp only [lCa, lNa]
       obtain ⟨x2, D9, hD9⟩ : ∃ x y, D8.byte = (x, y) := ⟨_, _, rfl⟩
       have hlD9 : D9.l = D.l := by have := Di.byte_l D8; rw [hD9] at this; rw [← hlD8]; exact this
       rw [hD9]
       dsimp only
       refine ⟨Held.c, ?_⟩
       refine GT 22 25165823 rfl (by kernel_rfl) rfl rfl Gd.no (Qt.buildA Try.underlying38 z5 ze38 (.cons rfl rfl (by first | exact Cl.one rfl | exact Cl.agg) rfl (SetM.cons SetAt.k0 (.nil _ _)) (.cons rfl rfl (by first | exact Cl.one rfl | exact Cl.agg) rfl (SetM.cons SetAt.k1 (.nil _ _)) (.cons rfl rfl (by first | exact Cl.one rfl | exact Cl.agg) rfl (SetM.cons SetAt.k2 (.nil _ _)) (.nil _))))) Held.c ?_
       refine GT 23 33554431 rfl (by kernel_rfl) rfl rfl Gd.no (Qt.buildS Try.underlying40 pl40 ze40 (.cons rfl rfl (by first | exact Cl.one rfl | exact Cl.agg) rfl (SetM.cons SetAt.k1 (.nil _ _)) (.cons rfl rfl (by first | exact Cl.one rfl | exact Cl.agg) rfl (SetM.cons SetAt.k2 (.nil _ _)) (.cons rfl rfl (by first | exact Cl.one rfl | exact Cl.agg) rfl (SetM.cons SetAt.k3 (.nil _ _)) (.cons rfl rfl (by first | exact Cl.one rfl | exact Cl.agg) rfl (SetM.cons SetAt.k4 (.nil _ _)) (.cons rfl rfl (by first | exact Cl.one rfl | exact Cl.agg) rfl (SetM.cons SetAt.k5 (.nil _ _)) (.cons rfl rfl (by first | exact Cl.one rfl | exact Cl.agg) rfl (SetM.cons SetAt.k6 (.nil _ _)) (.cons rfl rfl (by first | exact Cl.one rfl | exact Cl.agg) rfl (by repeat constructor) (.nil _))))))))) Held.c ?_
       refine GO 25 67108863 (by kernel_rfl) rfl rfl Gd.no (Ld.stW (by exact z40) rfl rfl (by simp [Value.oneCell']) (E := 40) (by rfl) UpdC.u ?_)
       refine ⟨Held.c, ?_⟩
       refine GH.done (by kernel_rfl) ?_
       refine GK.then (GC.seq (GC.seq (GC.region ?_)))
       refine G.q Gd.no (Qt.mv rfl) rfl ?_
       refine G.ld Gd.no (Ld.call cal41 rfl rfl (Tks.c (.nil _)) (fun F' hF => bool_ct F' b A c D9 (by rw [hlD9]; exact hA.mono hF) (by rw [hlD9]; exact hl) 8 (by omega) (by omega)) (fun _ _ => ?_))
       dsimp only [lCa, lNa]
       obtain ⟨z, D10, hD10⟩ : ∃ x y, D9.bool 8 = (x, y) := ⟨_, _, rfl⟩
       have hlD10 : D10.l = D.l := by have := Di.bool_l D9 8; rw [hD10] at this; rw [← hlD9]; exact this
       rw [hD10]
       dsimp only
       refine G.nil (GK.then ?_)
       refine GC.condb rfl (fun c4 => ?_) (fun c4 => ?_)
       ·try simp only [sB0, sB1, sB2, sB3, sB4, sB5, sB6, sB7, sB8] at c4
        refine GC.region ?_
        refine G.q Gd.no (Qt.fa0 fl40_1 rfl) rfl ?_
        refine G.ld Gd.no (Ld.stc z37 rfl rfl rfl (Stc.o SetAt.k1) ?_)
        refine G.nil (GK.then (GC.seq (GC.region ?_)))
        refine G.q Gd.no (Qt.ldW a40 rfl Rd.o z40) rfl ?_
        refine G.ld Gd.no (Ld.stW (by exact z40) rfl rfl (by simp [Value.oneCell']) (E := 40) (by rfl) UpdC.u ?_)
        refine G.nil (GK.then (GC.ret ?_))
        rw [show RR = (⟨0, 4294967294, g, s1, s2, ix typL t.toNat, de, x0, x1, x2⟩, D10) from by rw [← hRR]; simp only [Di.event, hD1, hD2, hD3, hD4, hD5, hD6, hD7, hD8, hD9, hD10, c4, if_true]]
        refine GK.ret (rs := [.cell 2 40]) rfl (.cellW rfl a40 (by exact z40) Rd.o .nil) () ?_ ?_ (Tks.c (.nil _))
        ·trivial
        ·rfl
       ·try simp only [sB0, sB1, sB2, sB3, sB4, sB5, sB6, sB7, sB8] at c4
        refine GC.skip (GK.then (GC.seq (GC.region ?_)))
        refine G.q Gd.no (Qt.ldW a40 rfl Rd.o z40) rfl ?_
        refine G.ld Gd.no (Ld.stW (by exact z40) rfl rfl (by simp [Value.oneCell']) (E := 40) (by rfl) UpdC.u ?_)
        refine G.nil (GK.then (GC.ret ?_))
        rw [show RR = (⟨0, a, g, s1, s2, ix typL t.toNat, de, x0, x1, x2⟩, D10) from by rw [← hRR]; simp only [Di.event, hD1, hD2, hD3, hD4, hD5, hD6, hD7, hD8, hD9, hD10, c4, Bool.false_eq_true, if_false]]
        refine GK.ret (rs := [.cell 2 40]) rfl (.cellW rfl a40 (by exact z40) Rd.o .nil) () ?_ ?_ (Tks.c (.nil _))
        ·trivial
        ·rfl
     ·skip
      refine ⟨Held.c, ?_⟩
      refine GO 11 18173951 (by kernel_rfl) rfl rfl Gd.no (Ld.call cal39 rfl rfl (Tks.c (.nil _)) (fun F' hF => next_ct F' b A c D4 (by rw [hlD4]; exact hA.mono hF) (by rw [hlD4]; exact hl) 4 (by omega) (by omega)) (fun _ _ => ?_))
      dsimp only [lCa, lNa]
      obtain ⟨t, D5, hD5⟩ : ∃ x y, D4.next 4 = (x, y) := ⟨_, _, rfl⟩
      have hlD5 : D5.l = D.l := by have := Di.next_l D4 4; rw [hD5] at this; rw [← hlD4]; exact this
      have hbD5 : 0 ≤ t ∧ t < 4 := by have := Di.next_lt D4 (m := 4) (by decide); rw [hD5] at this; exact this
      rw [hD5]
      dsimp only
      refine ⟨Held.c, ?_⟩
      refine GT 12 18178047 rfl (by kernel_rfl) rfl rfl Gd.no (by first | exact Qt.iaa01 Try.underlying77 z5 rfl rfl (by omega) (by omega) (rfl : t.toNat = t.toNat) | exact Qt.iaa1 Try.underlying77 z5 rfl rfl (by omega) (by omega) (rfl : t.toNat = t.toNat)) Held.c ?_
      refine GT 13 18186239 rfl (by kernel_rfl) rfl rfl Gd.no (Qt.ldc a5 rfl (Rdc.o (nth_vI (k := .u8) (xs := typL) (by show _ < 4; omega)))) Held.c ?_
      refine GO 15 18219007 (by kernel_rfl) rfl rfl Gd.no (Ld.call cal41 rfl rfl (Tks.c (.nil _)) (fun F' hF => bool_ct F' b A c D5 (by rw [hlD5]; exact hA.mono hF) (by rw [hlD5]; exact hl) 2 (by omega) (by omega)) (fun _ _ => ?_))
      dsimp only [lCa, lNa]
      obtain ⟨de, D6, hD6⟩ : ∃ x y, D5.bool 2 = (x, y) := ⟨_, _, rfl⟩
      have hlD6 : D6.l = D.l := by have := Di.bool_l D5 2; rw [hD6] at this; rw [← hlD5]; exact this
      rw [hD6]
      dsimp only
      refine ⟨Held.c, ?_⟩
      refine GO 17 18350079 (by kernel_rfl) rfl rfl Gd.no (Ld.call cal40 rfl rfl (Tks.c (.nil _)) (fun F' hF => byte_ct F' b A c D6 (by rw [hlD6]; exact hA.mono hF) (by rw [hlD6]; exact hl)) (fun _ _ => ?_))
      dsimp only [lCa, lNa]
      obtain ⟨x0, D7, hD7⟩ : ∃ x y, D6.byte = (x, y) := ⟨_, _, rfl⟩
      have hlD7 : D7.l = D.l := by have := Di.byte_l D6; rw [hD7] at this; rw [← hlD6]; exact this
      rw [hD7]
      dsimp only
      refine ⟨Held.c, ?_⟩
      refine GO 19 18874367 (by kernel_rfl) rfl rfl Gd.no (Ld.call cal40 rfl rfl (Tks.c (.nil _)) (fun F' hF => byte_ct F' b A c D7 (by rw [hlD7]; exact hA.mono hF) (by rw [hlD7]; exact hl)) (fun _ _ => ?_))
      dsimp only [lCa, lNa]
      obtain ⟨x1, D8, hD8⟩ : ∃ x y, D7.byte = (x, y) := ⟨_, _, rfl⟩
      have hlD8 : D8.l = D.l := by have := Di.byte_l D7; rw [hD8] at this; rw [← hlD7]; exact this
      rw [hD8]
      dsimp only
      refine ⟨Held.c, ?_⟩
      refine GO 21 20971519 (by kernel_rfl) rfl rfl Gd.no (Ld.call cal40 rfl rfl (Tks.c (.nil _)) (fun F' hF => byte_ct F' b A c D8 (by rw [hlD8]; exact hA.mono hF) (by rw [hlD8]; exact hl)) (fun _ _ => ?_))
      dsimp only [lCa, lNa]
      obtain ⟨x2, D9, hD9⟩ : ∃ x y, D8.byte = (x, y) := ⟨_, _, rfl⟩
      have hlD9 : D9.l = D.l := by have := Di.byte_l D8; rw [hD9] at this; rw [← hlD8]; exact this
      rw [hD9]
      dsimp only
      refine ⟨Held.c, ?_⟩
      refine GT 22 25165823 rfl (by kernel_rfl) rfl rfl Gd.no (Qt.buildA Try.underlying38 z5 ze38 (.cons rfl rfl (by first | exact Cl.one rfl | exact Cl.agg) rfl (SetM.cons SetAt.k0 (.nil _ _)) (.cons rfl rfl (by first | exact Cl.one rfl | exact Cl.agg) rfl (SetM.cons SetAt.k1 (.nil _ _)) (.cons rfl rfl (by first | exact Cl.one rfl | exact Cl.agg) rfl (SetM.cons SetAt.k2 (.nil _ _)) (.nil _))))) Held.c ?_
      refine GT 23 33554431 rfl (by kernel_rfl) rfl rfl Gd.no (Qt.buildS Try.underlying40 pl40 ze40 (.cons rfl rfl (by first | exact Cl.one rfl | exact Cl.agg) rfl (SetM.cons SetAt.k1 (.nil _ _)) (.cons rfl rfl (by first | exact Cl.one rfl | exact Cl.agg) rfl (SetM.cons SetAt.k2 (.nil _ _)) (.cons rfl rfl (by first | exact Cl.one rfl | exact Cl.agg) rfl (SetM.cons SetAt.k3 (.nil _ _)) (.cons rfl rfl (by first | exact Cl.one rfl | exact Cl.agg) rfl (SetM.cons SetAt.k4 (.nil _ _)) (.cons rfl rfl (by first | exact Cl.one rfl | exact Cl.agg) rfl (SetM.cons SetAt.k5 (.nil _ _)) (.cons rfl rfl (by first | exact Cl.one rfl | exact Cl.agg) rfl (SetM.cons SetAt.k6 (.nil _ _)) (.cons rfl rfl (by first | exact Cl.one rfl | exact Cl.agg) rfl (by repeat constructor) (.nil _))))))))) Held.c ?_
      refine GO 25 67108863 (by kernel_rfl) rfl rfl Gd.no (Ld.stW (by exact z40) rfl rfl (by simp [Value.oneCell']) (E := 40) (by rfl) UpdC.u ?_)
      refine ⟨Held.c, ?_⟩
      refine GH.done (by kernel_rfl) ?_
      refine GK.then (GC.seq (GC.seq (GC.region ?_)))
      refine G.q Gd.no (Qt.mv rfl) rfl ?_
      refine G.ld Gd.no (Ld.call cal41 rfl rfl (Tks.c (.nil _)) (fun F' hF => bool_ct F' b A c D9 (by rw [hlD9]; exact hA.mono hF) (by rw [hlD9]; exact hl) 8 (by omega) (by omega)) (fun _ _ => ?_))
      dsimp only [lCa, lNa]
      obtain ⟨z, D10, hD10⟩ : ∃ x y, D9.bool 8 = (x, y) := ⟨_, _, rfl⟩
      have hlD10 : D10.l = D.l := by have := Di.bool_l D9 8; rw [hD10] at this; rw [← hlD9]; exact this
      rw [hD10]
      dsimp only
      refine G.nil (GK.then ?_)
      refine GC.condb rfl (fun c5 => ?_) (fun c5 => ?_)
      ·try simp only [sB0, sB1, sB2, sB3, sB4, sB5, sB6, sB7, sB8] at c5
       refine GC.region ?_
       refine G.q Gd.no (Qt.fa0 fl40_1 rfl) rfl ?_
       refine G.ld Gd.no (Ld.stc z37 rfl rfl rfl (Stc.o SetAt.k1) ?_)
       refine G.nil (GK.then (GC.seq (GC.region ?_)))
       refine G.q Gd.no (Qt.ldW a40 rfl Rd.o z40) rfl ?_
       refine G.ld Gd.no (Ld.stW (by exact z40) rfl rfl (by simp [Value.oneCell']) (E := 40) (by rfl) UpdC.u ?_)
       refine G.nil (GK.then (GC.ret ?_))
       rw [show RR = (⟨0, 4294967294, g, s1, s2, ix typL t.toNat, de, x0, x1, x2⟩, D10) from by rw [← hRR]; simp only [Di.event, hD1, hD2, hD3, hD4, hD5, hD6, hD7, hD8, hD9, hD10, c5, if_true]]
       refine GK.ret (rs := [.cell 2 40]) rfl (.cellW rfl a40 (by exact z40) Rd.o .nil) () ?_ ?_ (Tks.c (.nil _))
       ·trivial
       ·rfl
      ·try simp only [sB0, sB1, sB2, sB3, sB4, sB5, sB6, sB7, sB8] at c5
       refine GC.skip (GK.then (GC.seq (GC.region ?_)))
       refine G.q Gd.no (Qt.ldW a40 rfl Rd.o z40) rfl ?_
       refine G.ld Gd.no (Ld.stW (by exact z40) rfl rfl (by simp [Value.oneCell']) (E := 40) (by rfl) UpdC.u ?_)
       refine G.nil (GK.then (GC.ret ?_))
       rw [show RR = (⟨0, a, g, s1, s2, ix typL t.toNat, de, x0, x1, x2⟩, D10) from by rw [← hRR]; simp only [Di.event, hD1, hD2, hD3, hD4, hD5, hD6, hD7, hD8, hD9, hD10, c5, Bool.false_eq_true, if_false]]
       refine GK.ret (rs := [.cell 2 40]) rfl (.cellW rfl a40 (by exact z40) Rd.o .nil) () ?_ ?_ (Tks.c (.nil _))
       ·trivial
       ·rfl
    ·skip
     refine ⟨Held.c, ?_⟩
     refine GO 9 18171903 (by kernel_rfl) rfl rfl Gd.no (Ld.call cal40 rfl rfl (Tks.c (.nil _)) (fun F' hF => byte_ct F' b A c D3 (by rw [hlD3]; exact hA.mono hF) (by rw [hlD3]; exact hl)) (fun _ _ => ?_))
     dsimp only [lCa, lNa]
     obtain ⟨s2, D4, hD4⟩ : ∃ x y, D3.byte = (x, y) := ⟨_, _, rfl⟩
     have hlD4 : D4.l = D.l := by have := Di.byte_l D3; rw [hD4] at this; rw [← hlD3]; exact this
     rw [hD4]
     dsimp only
     refine ⟨Held.c, ?_⟩
     refine GO 11 18173951 (by kernel_rfl) rfl rfl Gd.no (Ld.call cal39 rfl rfl (Tks.c (.nil _)) (fun F' hF => next_ct F' b A c D4 (by rw [hlD4]; exact hA.mono hF) (by rw [hlD4]; exact hl) 4 (by omega) (by omega)) (fun _ _ => ?_))
     dsimp only [lCa, lNa]
     obtain ⟨t, D5, hD5⟩ : ∃ x y, D4.next 4 = (x, y) := ⟨_, _, rfl⟩
     have hlD5 : D5.l = D.l := by have := Di.next_l D4 4; rw [hD5] at this; rw [← hlD4]; exact this
     have hbD5 : 0 ≤ t ∧ t < 4 := by have := Di.next_lt D4 (m := 4) (by decide); rw [hD5] at this; exact this
     rw [hD5]
     dsimp only
     refine ⟨Held.c, ?_⟩
     refine GT 12 18178047 rfl (by kernel_rfl) rfl rfl Gd.no (by first | exact Qt.iaa01 Try.underlying77 z5 rfl rfl (by omega) (by omega) (rfl : t.toNat = t.toNat) | exact Qt.iaa1 Try.underlying77 z5 rfl rfl (by omega) (by omega) (rfl : t.toNat = t.toNat)) Held.c ?_
     refine GT 13 18186239 rfl (by kernel_rfl) rfl rfl Gd.no (Qt.ldc a5 rfl (Rdc.o (nth_vI (k := .u8) (xs := typL) (by show _ < 4; omega)))) Held.c ?_
     refine GO 15 18219007 (by kernel_rfl) rfl rfl Gd.no (Ld.call cal41 rfl rfl (Tks.c (.nil _)) (fun F' hF => bool_ct F' b A c D5 (by rw [hlD5]; exact hA.mono hF) (by rw [hlD5]; exact hl) 2 (by omega) (by omega)) (fun _ _ => ?_))
     dsimp only [lCa, lNa]
     obtain ⟨de, D6, hD6⟩ : ∃ x y, D5.bool 2 = (x, y) := ⟨_, _, rfl⟩
     have hlD6 : D6.l = D.l := by have := Di.bool_l D5 2; rw [hD6] at this; rw [← hlD5]; exact this
     rw [hD6]
     dsimp only
     refine ⟨Held.c, ?_⟩
     refine GO 17 18350079 (by kernel_rfl) rfl rfl Gd.no (Ld.call cal40 rfl rfl (Tks.c (.nil _)) (fun F' hF => byte_ct F' b A c D6 (by rw [hlD6]; exact hA.mono hF) (by rw [hlD6]; exact hl)) (fun _ _ => ?_))
     dsimp only [lCa, lNa]
     obtain ⟨x0, D7, hD7⟩ : ∃ x y, D6.byte = (x, y) := ⟨_, _, rfl⟩
     have hlD7 : D7.l = D.l := by have := Di.byte_l D6; rw [hD7] at this; rw [← hlD6]; exact this
     rw [hD7]
     dsimp only
     refine ⟨Held.c, ?_⟩
     refine GO 19 18874367 (by kernel_rfl) rfl rfl Gd.no (Ld.call cal40 rfl rfl (Tks.c (.nil _)) (fun F' hF => byte_ct F' b A c D7 (by rw [hlD7]; exact hA.mono hF) (by rw [hlD7]; exact hl)) (fun _ _ => ?_))
     dsimp only [lCa, lNa]
     obtain ⟨x1, D8, hD8⟩ : ∃ x y, D7.byte = (x, y) := ⟨_, _, rfl⟩
     have hlD8 : D8.l = D.l := by have := Di.byte_l D7; rw [hD8] at this; rw [← hlD7]; exact this
     rw [hD8]
     dsimp only
     refine ⟨Held.c, ?_⟩
     refine GO 21 20971519 (by kernel_rfl) rfl rfl Gd.no (Ld.call cal40 rfl rfl (Tks.c (.nil _)) (fun F' hF => byte_ct F' b A c D8 (by rw [hlD8]; exact hA.mono hF) (by rw [hlD8]; exact hl)) (fun _ _ => ?_))
     dsimp only [lCa, lNa]
     obtain ⟨x2, D9, hD9⟩ : ∃ x y, D8.byte = (x, y) := ⟨_, _, rfl⟩
     have hlD9 : D9.l = D.l := by have := Di.byte_l D8; rw [hD9] at this; rw [← hlD8]; exact this
     rw [hD9]
     dsimp only
     refine ⟨Held.c, ?_⟩
     refine GT 22 25165823 rfl (by kernel_rfl) rfl rfl Gd.no (Qt.buildA Try.underlying38 z5 ze38 (.cons rfl rfl (by first | exact Cl.one rfl | exact Cl.agg) rfl (SetM.cons SetAt.k0 (.nil _ _)) (.cons rfl rfl (by first | exact Cl.one rfl | exact Cl.agg) rfl (SetM.cons SetAt.k1 (.nil _ _)) (.cons rfl rfl (by first | exact Cl.one rfl | exact Cl.agg) rfl (SetM.cons SetAt.k2 (.nil _ _)) (.nil _))))) Held.c ?_
     refine GT 23 33554431 rfl (by kernel_rfl) rfl rfl Gd.no (Qt.buildS Try.underlying40 pl40 ze40 (.cons rfl rfl (by first | exact Cl.one rfl | exact Cl.agg) rfl (SetM.cons SetAt.k1 (.nil _ _)) (.cons rfl rfl (by first | exact Cl.one rfl | exact Cl.agg) rfl (SetM.cons SetAt.k2 (.nil _ _)) (.cons rfl rfl (by first | exact Cl.one rfl | exact Cl.agg) rfl (SetM.cons SetAt.k3 (.nil _ _)) (.cons rfl rfl (by first | exact Cl.one rfl | exact Cl.agg) rfl (SetM.cons SetAt.k4 (.nil _ _)) (.cons rfl rfl (by first | exact Cl.one rfl | exact Cl.agg) rfl (SetM.cons SetAt.k5 (.nil _ _)) (.cons rfl rfl (by first | exact Cl.one rfl | exact Cl.agg) rfl (SetM.cons SetAt.k6 (.nil _ _)) (.cons rfl rfl (by first | exact Cl.one rfl | exact Cl.agg) rfl (by repeat constructor) (.nil _))))))))) Held.c ?_
     refine GO 25 67108863 (by kernel_rfl) rfl rfl Gd.no (Ld.stW (by exact z40) rfl rfl (by simp [Value.oneCell']) (E := 40) (by rfl) UpdC.u ?_)
     refine ⟨Held.c, ?_⟩
     refine GH.done (by kernel_rfl) ?_
     refine GK.then (GC.seq (GC.seq (GC.region ?_)))
     refine G.q Gd.no (Qt.mv rfl) rfl ?_
     refine G.ld Gd.no (Ld.call cal41 rfl rfl (Tks.c (.nil _)) (fun F' hF => bool_ct F' b A c D9 (by rw [hlD9]; exact hA.mono hF) (by rw [hlD9]; exact hl) 8 (by omega) (by omega)) (fun _ _ => ?_))
     dsimp only [lCa, lNa]
     obtain ⟨z, D10, hD10⟩ : ∃ x y, D9.bool 8 = (x, y) := ⟨_, _, rfl⟩
     have hlD10 : D10.l = D.l := by have := Di.bool_l D9 8; rw [hD10] at this; rw [← hlD9]; exact this
     rw [hD10]
     dsimp only
     refine G.nil (GK.then ?_)
     refine GC.condb rfl (fun c6 => ?_) (fun c6 => ?_)
     ·try simp only [sB0, sB1, sB2, sB3, sB4, sB5, sB6, sB7, sB8] at c6
      refine GC.region ?_
      refine G.q Gd.no (Qt.fa0 fl40_1 rfl) rfl ?_
      refine G.ld Gd.no (Ld.stc z37 rfl rfl rfl (Stc.o SetAt.k1) ?_)
      refine G.nil (GK.then (GC.seq (GC.region ?_)))
      refine G.q Gd.no (Qt.ldW a40 rfl Rd.o z40) rfl ?_
      refine G.ld Gd.no (Ld.stW (by exact z40) rfl rfl (by simp [Value.oneCell']) (E := 40) (by rfl) UpdC.u ?_)
      refine G.nil (GK.then (GC.ret ?_))
      rw [show RR = (⟨0, 4294967294, g, s1, s2, ix typL t.toNat, de, x0, x1, x2⟩, D10) from by rw [← hRR]; simp only [Di.event, hD1, hD2, hD3, hD4, hD5, hD6, hD7, hD8, hD9, hD10, c6, if_true]]
      refine GK.ret (rs := [.cell 2 40]) rfl (.cellW rfl a40 (by exact z40) Rd.o .nil) () ?_ ?_ (Tks.c (.nil _))
      ·trivial
      ·rfl
     ·try simp only [sB0, sB1, sB2, sB3, sB4, sB5, sB6, sB7, sB8] at c6
      refine GC.skip (GK.then (GC.seq (GC.region ?_)))
      refine G.q Gd.no (Qt.ldW a40 rfl Rd.o z40) rfl ?_
      refine G.ld Gd.no (Ld.stW (by exact z40) rfl rfl (by simp [Value.oneCell']) (E := 40) (by rfl) UpdC.u ?_)
      refine G.nil (GK.then (GC.ret ?_))
      rw [show RR = (⟨0, a, g, s1, s2, ix typL t.toNat, de, x0, x1, x2⟩, D10) from by rw [← hRR]; simp only [Di.event, hD1, hD2, hD3, hD4, hD5, hD6, hD7, hD8, hD9, hD10, c6, Bool.false_eq_true, if_false]]
      refine GK.ret (rs := [.cell 2 40]) rfl (.cellW rfl a40 (by exact z40) Rd.o .nil) () ?_ ?_ (Tks.c (.nil _))
      ·trivial
      ·rfl
   ·skip
    refine ⟨Held.c, ?_⟩
    refine GO 7 18171391 (by kernel_rfl) rfl rfl Gd.no (Ld.call cal40 rfl rfl (Tks.c (.nil _)) (fun F' hF => byte_ct F' b A c D2 (by rw [hlD2]; exact hA.mono hF) (by rw [hlD2]; exact hl)) (fun _ _ => ?_))
    dsimp only [lCa, lNa]
    obtain ⟨s1, D3, hD3⟩ : ∃ x y, D2.byte = (x, y) := ⟨_, _, rfl⟩
    have hlD3 : D3.l = D.l := by have := Di.byte_l D2; rw [hD3] at this; rw [← hlD2]; exact this
    rw [hD3]
    dsimp only
    refine ⟨Held.c, ?_⟩
    refine GO 9 18171903 (by kernel_rfl) rfl rfl Gd.no (Ld.call cal40 rfl rfl (Tks.c (.nil _)) (fun F' hF => byte_ct F' b A c D3 (by rw [hlD3]; exact hA.mono hF) (by rw [hlD3]; exact hl)) (fun _ _ => ?_))
    dsimp only [lCa, lNa]
    obtain ⟨s2, D4, hD4⟩ : ∃ x y, D3.byte = (x, y) := ⟨_, _, rfl⟩
    have hlD4 : D4.l = D.l := by have := Di.byte_l D3; rw [hD4] at this; rw [← hlD3]; exact this
    rw [hD4]
    dsimp only
    refine ⟨Held.c, ?_⟩
    refine GO 11 18173951 (by kernel_rfl) rfl rfl Gd.no (Ld.call cal39 rfl rfl (Tks.c (.nil _)) (fun F' hF => next_ct F' b A c D4 (by rw [hlD4]; exact hA.mono hF) (by rw [hlD4]; exact hl) 4 (by omega) (by omega)) (fun _ _ => ?_))
    dsimp only [lCa, lNa]
    obtain ⟨t, D5, hD5⟩ : ∃ x y, D4.next 4 = (x, y) := ⟨_, _, rfl⟩
    have hlD5 : D5.l = D.l := by have := Di.next_l D4 4; rw [hD5] at this; rw [← hlD4]; exact this
    have hbD5 : 0 ≤ t ∧ t < 4 := by have := Di.next_lt D4 (m := 4) (by decide); rw [hD5] at this; exact this
    rw [hD5]
    dsimp only
    refine ⟨Held.c, ?_⟩
    refine GT 12 18178047 rfl (by kernel_rfl) rfl rfl Gd.no (by first | exact Qt.iaa01 Try.underlying77 z5 rfl rfl (by omega) (by omega) (rfl : t.toNat = t.toNat) | exact Qt.iaa1 Try.underlying77 z5 rfl rfl (by omega) (by omega) (rfl : t.toNat = t.toNat)) Held.c ?_
    refine GT 13 18186239 rfl (by kernel_rfl) rfl rfl Gd.no (Qt.ldc a5 rfl (Rdc.o (nth_vI (k := .u8) (xs := typL) (by show _ < 4; omega)))) Held.c ?_
    refine GO 15 18219007 (by kernel_rfl) rfl rfl Gd.no (Ld.call cal41 rfl rfl (Tks.c (.nil _)) (fun F' hF => bool_ct F' b A c D5 (by rw [hlD5]; exact hA.mono hF) (by rw [hlD5]; exact hl) 2 (by omega) (by omega)) (fun _ _ => ?_))
    dsimp only [lCa, lNa]
    obtain ⟨de, D6, hD6⟩ : ∃ x y, D5.bool 2 = (x, y) := ⟨_, _, rfl⟩
    have hlD6 : D6.l = D.l := by have := Di.bool_l D5 2; rw [hD6] at this; rw [← hlD5]; exact this
    rw [hD6]
    dsimp only
    refine ⟨Held.c, ?_⟩
    refine GO 17 18350079 (by kernel_rfl) rfl rfl Gd.no (Ld.call cal40 rfl rfl (Tks.c (.nil _)) (fun F' hF => byte_ct F' b A c D6 (by rw [hlD6]; exact hA.mono hF) (by rw [hlD6]; exact hl)) (fun _ _ => ?_))
    dsimp only [lCa, lNa]
    obtain ⟨x0, D7, hD7⟩ : ∃ x y, D6.byte = (x, y) := ⟨_, _, rfl⟩
    have hlD7 : D7.l = D.l := by have := Di.byte_l D6; rw [hD7] at this; rw [← hlD6]; exact this
    rw [hD7]
    dsimp only
    refine ⟨Held.c, ?_⟩
    refine GO 19 18874367 (by kernel_rfl) rfl rfl Gd.no (Ld.call cal40 rfl rfl (Tks.c (.nil _)) (fun F' hF => byte_ct F' b A c D7 (by rw [hlD7]; exact hA.mono hF) (by rw [hlD7]; exact hl)) (fun _ _ => ?_))
    dsimp only [lCa, lNa]
    obtain ⟨x1, D8, hD8⟩ : ∃ x y, D7.byte = (x, y) := ⟨_, _, rfl⟩
    have hlD8 : D8.l = D.l := by have := Di.byte_l D7; rw [hD8] at this; rw [← hlD7]; exact this
    rw [hD8]
    dsimp only
    refine ⟨Held.c, ?_⟩
    refine GO 21 20971519 (by kernel_rfl) rfl rfl Gd.no (Ld.call cal40 rfl rfl (Tks.c (.nil _)) (fun F' hF => byte_ct F' b A c D8 (by rw [hlD8]; exact hA.mono hF) (by rw [hlD8]; exact hl)) (fun _ _ => ?_))
    dsimp only [lCa, lNa]
    obtain ⟨x2, D9, hD9⟩ : ∃ x y, D8.byte = (x, y) := ⟨_, _, rfl⟩
    have hlD9 : D9.l = D.l := by have := Di.byte_l D8; rw [hD9] at this; rw [← hlD8]; exact this
    rw [hD9]
    dsimp only
    refine ⟨Held.c, ?_⟩
    refine GT 22 25165823 rfl (by kernel_rfl) rfl rfl Gd.no (Qt.buildA Try.underlying38 z5 ze38 (.cons rfl rfl (by first | exact Cl.one rfl | exact Cl.agg) rfl (SetM.cons SetAt.k0 (.nil _ _)) (.cons rfl rfl (by first | exact Cl.one rfl | exact Cl.agg) rfl (SetM.cons SetAt.k1 (.nil _ _)) (.cons rfl rfl (by first | exact Cl.one rfl | exact Cl.agg) rfl (SetM.cons SetAt.k2 (.nil _ _)) (.nil _))))) Held.c ?_
    refine GT 23 33554431 rfl (by kernel_rfl) rfl rfl Gd.no (Qt.buildS Try.underlying40 pl40 ze40 (.cons rfl rfl (by first | exact Cl.one rfl | exact Cl.agg) rfl (SetM.cons SetAt.k1 (.nil _ _)) (.cons rfl rfl (by first | exact Cl.one rfl | exact Cl.agg) rfl (SetM.cons SetAt.k2 (.nil _ _)) (.cons rfl rfl (by first | exact Cl.one rfl | exact Cl.agg) rfl (SetM.cons SetAt.k3 (.nil _ _)) (.cons rfl rfl (by first | exact Cl.one rfl | exact Cl.agg) rfl (SetM.cons SetAt.k4 (.nil _ _)) (.cons rfl rfl (by first | exact Cl.one rfl | exact Cl.agg) rfl (SetM.cons SetAt.k5 (.nil _ _)) (.cons rfl rfl (by first | exact Cl.one rfl | exact Cl.agg) rfl (SetM.cons SetAt.k6 (.nil _ _)) (.cons rfl rfl (by first | exact Cl.one rfl | exact Cl.agg) rfl (by repeat constructor) (.nil _))))))))) Held.c ?_
    refine GO 25 67108863 (by kernel_rfl) rfl rfl Gd.no (Ld.stW (by exact z40) rfl rfl (by simp [Value.oneCell']) (E := 40) (by rfl) UpdC.u ?_)
    refine ⟨Held.c, ?_⟩
    refine GH.done (by kernel_rfl) ?_
    refine GK.then (GC.seq (GC.seq (GC.region ?_)))
    refine G.q Gd.no (Qt.mv rfl) rfl ?_
    refine G.ld Gd.no (Ld.call cal41 rfl rfl (Tks.c (.nil _)) (fun F' hF => bool_ct F' b A c D9 (by rw [hlD9]; exact hA.mono hF) (by rw [hlD9]; exact hl) 8 (by omega) (by omega)) (fun _ _ => ?_))
    dsimp only [lCa, lNa]
    obtain ⟨z, D10, hD10⟩ : ∃ x y, D9.bool 8 = (x, y) := ⟨_, _, rfl⟩
    have hlD10 : D10.l = D.l := by have := Di.bool_l D9 8; rw [hD10] at this; rw [← hlD9]; exact this
    rw [hD10]
    dsimp only
    refine G.nil (GK.then ?_)
    refine GC.condb rfl (fun c7 => ?_) (fun c7 => ?_)
    ·try simp only [sB0, sB1, sB2, sB3, sB4, sB5, sB6, sB7, sB8] at c7
     refine GC.region ?_
     refine G.q Gd.no (Qt.fa0 fl40_1 rfl) rfl ?_
     refine G.ld Gd.no (Ld.stc z37 rfl rfl rfl (Stc.o SetAt.k1) ?_)
     refine G.nil (GK.then (GC.seq (GC.region ?_)))
     refine G.q Gd.no (Qt.ldW a40 rfl Rd.o z40) rfl ?_
     refine G.ld Gd.no (Ld.stW (by exact z40) rfl rfl (by simp [Value.oneCell']) (E := 40) (by rfl) UpdC.u ?_)
     refine G.nil (GK.then (GC.ret ?_))
     rw [show RR = (⟨0, 4294967294, g, s1, s2, ix typL t.toNat, de, x0, x1, x2⟩, D10) from by rw [← hRR]; simp only [Di.event, hD1, hD2, hD3, hD4, hD5, hD6, hD7, hD8, hD9, hD10, c7, if_true]]
     refine GK.ret (rs := [.cell 2 40]) rfl (.cellW rfl a40 (by exact z40) Rd.o .nil) () ?_ ?_ (Tks.c (.nil _))
     ·trivial
     ·rfl
    ·try simp only [sB0, sB1, sB2, sB3, sB4, sB5, sB6, sB7, sB8] at c7
     refine GC.skip (GK.then (GC.seq (GC.region ?_)))
     refine G.q Gd.no (Qt.ldW a40 rfl Rd.o z40) rfl ?_
     refine G.ld Gd.no (Ld.stW (by exact z40) rfl rfl (by simp [Value.oneCell']) (E := 40) (by rfl) UpdC.u ?_)
     refine G.nil (GK.then (GC.ret ?_))
     rw [show RR = (⟨0, a, g, s1, s2, ix typL t.toNat, de, x0, x1, x2⟩, D10) from by rw [← hRR]; simp only [Di.event, hD1, hD2, hD3, hD4, hD5, hD6, hD7, hD8, hD9, hD10, c7, Bool.false_eq_true, if_false]]
     refine GK.ret (rs := [.cell 2 40]) rfl (.cellW rfl a40 (by exact z40) Rd.o .nil) () ?_ ?_ (Tks.c (.nil _))
     ·trivial
     ·rfl
  ·skip
   refine ⟨Held.c, ?_⟩
   refine GO 4 18171231 (by kernel_rfl) rfl rfl Gd.no (Ld.call cal39 rfl rfl (Tks.c (.nil _)) (fun F' hF => next_ct F' b A c D1 (by rw [hlD1]; exact hA.mono hF) (by rw [hlD1]; exact hl) 65536 (by omega) (by omega)) (fun _ _ => ?_))
   dsimp only [lCa, lNa]
   obtain ⟨g, D2, hD2⟩ : ∃ x y, D1.next 65536 = (x, y) := ⟨_, _, rfl⟩
   have hlD2 : D2.l = D.l := by have := Di.next_l D1 65536; rw [hD2] at this; rw [← hlD1]; exact this
   have hbD2 : 0 ≤ g ∧ g < 65536 := by have := Di.next_lt D1 (m := 65536) (by decide); rw [hD2] at this; exact this
   rw [hD2]
   dsimp only
   refine ⟨Held.c, ?_⟩
   refine GT 5 18171263 rfl (by kernel_rfl) rfl rfl Gd.no (Qt.conv Try.underlying3 Try.underlying36 rfl (by first | exact u16_id (by omega) (by omega) | exact rfl)) Held.c ?_
   refine GO 7 18171391 (by kernel_rfl) rfl rfl Gd.no (Ld.call cal40 rfl rfl (Tks.c (.nil _)) (fun F' hF => byte_ct F' b A c D2 (by rw [hlD2]; exact hA.mono hF) (by rw [hlD2]; exact hl)) (fun _ _ => ?_))
   dsimp only [lCa, lNa]
   obtain ⟨s1, D3, hD3⟩ : ∃ x y, D2.byte = (x, y) := ⟨_, _, rfl⟩
   have hlD3 : D3.l = D.l := by have := Di.byte_l D2; rw [hD3] at this; rw [← hlD2]; exact this
   rw [hD3]
   dsimp only
   refine ⟨Held.c, ?_⟩
   refine GO 9 18171903 (by kernel_rfl) rfl rfl Gd.no (Ld.call cal40 rfl rfl (Tks.c (.nil _)) (fun F' hF => byte_ct F' b A c D3 (by rw [hlD3]; exact hA.mono hF) (by rw [hlD3]; exact hl)) (fun _ _ => ?_))
   dsimp only [lCa, lNa]
   obtain ⟨s2, D4, hD4⟩ : ∃ x y, D3.byte = (x, y) := ⟨_, _, rfl⟩
   have hlD4 : D4.l = D.l := by have := Di.byte_l D3; rw [hD4] at this; rw [← hlD3]; exact this
   rw [hD4]
   dsimp only
   refine ⟨Held.c, ?_⟩
   refine GO 11 18173951 (by kernel_rfl) rfl rfl Gd.no (Ld.call cal39 rfl rfl (Tks.c (.nil _)) (fun F' hF => next_ct F' b A c D4 (by rw [hlD4]; exact hA.mono hF) (by rw [hlD4]; exact hl) 4 (by omega) (by omega)) (fun _ _ => ?_))
   dsimp only [lCa, lNa]
   obtain ⟨t, D5, hD5⟩ : ∃ x y, D4.next 4 = (x, y) := ⟨_, _, rfl⟩
   have hlD5 : D5.l = D.l := by have := Di.next_l D4 4; rw [hD5] at this; rw [← hlD4]; exact this
   have hbD5 : 0 ≤ t ∧ t < 4 := by have := Di.next_lt D4 (m := 4) (by decide); rw [hD5] at this; exact this
   rw [hD5]
   dsimp only
   refine ⟨Held.c, ?_⟩
   refine GT 12 18178047 rfl (by kernel_rfl) rfl rfl Gd.no (by first | exact Qt.iaa01 Try.underlying77 z5 rfl rfl (by omega) (by omega) (rfl : t.toNat = t.toNat) | exact Qt.iaa1 Try.underlying77 z5 rfl rfl (by omega) (by omega) (rfl : t.toNat = t.toNat)) Held.c ?_
   refine GT 13 18186239 rfl (by kernel_rfl) rfl rfl Gd.no (Qt.ldc a5 rfl (Rdc.o (nth_vI (k := .u8) (xs := typL) (by show _ < 4; omega)))) Held.c ?_
   refine GO 15 18219007 (by kernel_rfl) rfl rfl Gd.no (Ld.call cal41 rfl rfl (Tks.c (.nil _)) (fun F' hF => bool_ct F' b A c D5 (by rw [hlD5]; exact hA.mono hF) (by rw [hlD5]; exact hl) 2 (by omega) (by omega)) (fun _ _ => ?_))
   dsimp only [lCa, lNa]
   obtain ⟨de, D6, hD6⟩ : ∃ x y, D5.bool 2 = (x, y) := ⟨_, _, rfl⟩
   have hlD6 : D6.l = D.l := by have := Di.bool_l D5 2; rw [hD6] at this; rw [← hlD5]; exact this
   rw [hD6]
   dsimp only
   refine ⟨Held.c, ?_⟩
   refine GO 17 18350079 (by kernel_rfl) rfl rfl Gd.no (Ld.call cal40 rfl rfl (Tks.c (.nil _)) (fun F' hF => byte_ct F' b A c D6 (by rw [hlD6]; exact hA.mono hF) (by rw [hlD6]; exact hl)) (fun _ _ => ?_))
   dsimp only [lCa, lNa]
   obtain ⟨x0, D7, hD7⟩ : ∃ x y, D6.byte = (x, y) := ⟨_, _, rfl⟩
   have hlD7 : D7.l = D.l := by have := Di.byte_l D6; rw [hD7] at this; rw [← hlD6]; exact this
   rw [hD7]
   dsimp only
   refine ⟨Held.c, ?_⟩
   refine GO 19 18874367 (by kernel_rfl) rfl rfl Gd.no (Ld.call cal40 rfl rfl (Tks.c (.nil _)) (fun F' hF => byte_ct F' b A c D7 (by rw [hlD7]; exact hA.mono hF) (by rw [hlD7]; exact hl)) (fun _ _ => ?_))
   dsimp only [lCa, lNa]
   obtain ⟨x1, D8, hD8⟩ : ∃ x y, D7.byte = (x, y) := ⟨_, _, rfl⟩
   have hlD8 : D8.l = D.l := by have := Di.byte_l D7; rw [hD8] at this; rw [← hlD7]; exact this
   rw [hD8]
   dsimp only
   refine ⟨Held.c, ?_⟩
   refine GO 21 20971519 (by kernel_rfl) rfl rfl Gd.no (Ld.call cal40 rfl rfl (Tks.c (.nil _)) (fun F' hF => byte_ct F' b A c D8 (by rw [hlD8]; exact hA.mono hF) (by rw [hlD8]; exact hl)) (fun _ _ => ?_))
   dsimp only [lCa, lNa]
   obtain ⟨x2, D9, hD9⟩ : ∃ x y, D8.byte = (x, y) := ⟨_, _, rfl⟩
   have hlD9 : D9.l = D.l := by have := Di.byte_l D8; rw [hD9] at this; rw [← hlD8]; exact this
   rw [hD9]
   dsimp only
   refine ⟨Held.c, ?_⟩
   refine GT 22 25165823 rfl (by kernel_rfl) rfl rfl Gd.no (Qt.buildA Try.underlying38 z5 ze38 (.cons rfl rfl (by first | exact Cl.one rfl | exact Cl.agg) rfl (SetM.cons SetAt.k0 (.nil _ _)) (.cons rfl rfl (by first | exact Cl.one rfl | exact Cl.agg) rfl (SetM.cons SetAt.k1 (.nil _ _)) (.cons rfl rfl (by first | exact Cl.one rfl | exact Cl.agg) rfl (SetM.cons SetAt.k2 (.nil _ _)) (.nil _))))) Held.c ?_
   refine GT 23 33554431 rfl (by kernel_rfl) rfl rfl Gd.no (Qt.buildS Try.underlying40 pl40 ze40 (.cons rfl rfl (by first | exact Cl.one rfl | exact Cl.agg) rfl (SetM.cons SetAt.k1 (.nil _ _)) (.cons rfl rfl (by first | exact Cl.one rfl | exact Cl.agg) rfl (SetM.cons SetAt.k2 (.nil _ _)) (.cons rfl rfl (by first | exact Cl.one rfl | exact Cl.agg) rfl (SetM.cons SetAt.k3 (.nil _ _)) (.cons rfl rfl (by first | exact Cl.one rfl | exact Cl.agg) rfl (SetM.cons SetAt.k4 (.nil _ _)) (.cons rfl rfl (by first | exact Cl.one rfl | exact Cl.agg) rfl (SetM.cons SetAt.k5 (.nil _ _)) (.cons rfl rfl (by first | exact Cl.one rfl | exact Cl.agg) rfl (SetM.cons SetAt.k6 (.nil _ _)) (.cons rfl rfl (by first | exact Cl.one rfl | exact Cl.agg) rfl (by repeat constructor) (.nil _))))))))) Held.c ?_
   refine GO 25 67108863 (by kernel_rfl) rfl rfl Gd.no (Ld.stW (by exact z40) rfl rfl (by simp [Value.oneCell']) (E := 40) (by rfl) UpdC.u ?_)
   refine ⟨Held.c, ?_⟩
   refine GH.done (by kernel_rfl) ?_
   refine GK.then (GC.seq (GC.seq (GC.region ?_)))
   refine G.q Gd.no (Qt.mv rfl) rfl ?_
   refine G.ld Gd.no (Ld.call cal41 rfl rfl (Tks.c (.nil _)) (fun F' hF => bool_ct F' b A c D9 (by rw [hlD9]; exact hA.mono hF) (by rw [hlD9]; exact hl) 8 (by omega) (by omega)) (fun _ _ => ?_))
   dsimp only [lCa, lNa]
   obtain ⟨z, D10, hD10⟩ : ∃ x y, D9.bool 8 = (x, y) := ⟨_, _, rfl⟩
   have hlD10 : D10.l = D.l := by have := Di.bool_l D9 8; rw [hD10] at this; rw [← hlD9]; exact this
   rw [hD10]
   dsimp only
   refine G.nil (GK.then ?_)
   refine GC.condb rfl (fun c8 => ?_) (fun c8 => ?_)
   ·try simp only [sB0, sB1, sB2, sB3, sB4, sB5, sB6, sB7, sB8] at c8
    refine GC.region ?_
    refine G.q Gd.no (Qt.fa0 fl40_1 rfl) rfl ?_
    refine G.ld Gd.no (Ld.stc z37 rfl rfl rfl (Stc.o SetAt.k1) ?_)
    refine G.nil (GK.then (GC.seq (GC.region ?_)))
    refine G.q Gd.no (Qt.ldW a40 rfl Rd.o z40) rfl ?_
    refine G.ld Gd.no (Ld.stW (by exact z40) rfl rfl (by simp [Value.oneCell']) (E := 40) (by rfl) UpdC.u ?_)
    refine G.nil (GK.then (GC.ret ?_))
    rw [show RR = (⟨0, 4294967294, g, s1, s2, ix typL t.toNat, de, x0, x1, x2⟩, D10) from by rw [← hRR]; simp only [Di.event, hD1, hD2, hD3, hD4, hD5, hD6, hD7, hD8, hD9, hD10, c8, if_true]]
    refine GK.ret (rs := [.cell 2 40]) rfl (.cellW rfl a40 (by exact z40) Rd.o .nil) () ?_ ?_ (Tks.c (.nil _))
    ·trivial
    ·rfl
   ·try simp only [sB0, sB1, sB2, sB3, sB4, sB5, sB6, sB7, sB8] at c8
    refine GC.skip (GK.then (GC.seq (GC.region ?_)))
    refine G.q Gd.no (Qt.ldW a40 rfl Rd.o z40) rfl ?_
    refine G.ld Gd.no (Ld.stW (by exact z40) rfl rfl (by simp [Value.oneCell']) (E := 40) (by rfl) UpdC.u ?_)
    refine G.nil (GK.then (GC.ret ?_))
    rw [show RR = (⟨0, a, g, s1, s2, ix typL t.toNat, de, x0, x1, x2⟩, D10) from by rw [← hRR]; simp only [Di.event, hD1, hD2, hD3, hD4, hD5, hD6, hD7, hD8, hD9, hD10, c8, Bool.false_eq_true, if_false]]
    refine GK.ret (rs := [.cell 2 40]) rfl (.cellW rfl a40 (by exact z40) Rd.o .nil) () ?_ ?_ (Tks.c (.nil _))
    ·trivial
    ·rfl
 ·skip
  refine ⟨Held.c, ?_⟩
  refine GO 1 18171211 (by kernel_rfl) rfl rfl Gd.no (Ld.call cal39 rfl rfl (Tks.c (.nil _)) (fun F' hF => next_ct F' b A c D (by rw [hlD]; exact hA.mono hF) (by rw [hlD]; exact hl) 2000000 (by omega) (by omega)) (fun _ _ => ?_))
  dsimp only [lCa, lNa]
  obtain ⟨a, D1, hD1⟩ : ∃ x y, D.next 2000000 = (x, y) := ⟨_, _, rfl⟩
  have hlD1 : D1.l = D.l := by have := Di.next_l D 2000000; rw [hD1] at this; rw [← hlD]; exact this
  have hbD1 : 0 ≤ a ∧ a < 2000000 := by have := Di.next_lt D (m := 2000000) (by decide); rw [hD1] at this; exact this
  rw [hD1]
  dsimp only
  refine ⟨Held.c, ?_⟩
  refine GT 2 18171215 rfl (by kernel_rfl) rfl rfl Gd.no (Qt.conv Try.underlying3 Try.underlying37 rfl (by first | exact u32_id (by omega) (by omega) | exact rfl)) Held.c ?_
  refine GO 4 18171231 (by kernel_rfl) rfl rfl Gd.no (Ld.call cal39 rfl rfl (Tks.c (.nil _)) (fun F' hF => next_ct F' b A c D1 (by rw [hlD1]; exact hA.mono hF) (by rw [hlD1]; exact hl) 65536 (by omega) (by omega)) (fun _ _ => ?_))
  dsimp only [lCa, lNa]
  obtain ⟨g, D2, hD2⟩ : ∃ x y, D1.next 65536 = (x, y) := ⟨_, _, rfl⟩
  have hlD2 : D2.l = D.l := by have := Di.next_l D1 65536; rw [hD2] at this; rw [← hlD1]; exact this
  have hbD2 : 0 ≤ g ∧ g < 65536 := by have := Di.next_lt D1 (m := 65536) (by decide); rw [hD2] at this; exact this
  rw [hD2]
  dsimp only
  refine ⟨Held.c, ?_⟩
  refine GT 5 18171263 rfl (by kernel_rfl) rfl rfl Gd.no (Qt.conv Try.underlying3 Try.underlying36 rfl (by first | exact u16_id (by omega) (by omega) | exact rfl)) Held.c ?_
  refine GO 7 18171391 (by kernel_rfl) rfl rfl Gd.no (Ld.call cal40 rfl rfl (Tks.c (.nil _)) (fun F' hF => byte_ct F' b A c D2 (by rw [hlD2]; exact hA.mono hF) (by rw [hlD2]; exact hl)) (fun _ _ => ?_))
  dsimp only [lCa, lNa]
  obtain ⟨s1, D3, hD3⟩ : ∃ x y, D2.byte = (x, y) := ⟨_, _, rfl⟩
  have hlD3 : D3.l = D.l := by have := Di.byte_l D2; rw [hD3] at this; rw [← hlD2]; exact this
  rw [hD3]
  dsimp only
  refine ⟨Held.c, ?_⟩
  refine GO 9 18171903 (by kernel_rfl) rfl rfl Gd.no (Ld.call cal40 rfl rfl (Tks.c (.nil _)) (fun F' hF => byte_ct F' b A c D3 (by rw [hlD3]; exact hA.mono hF) (by rw [hlD3]; exact hl)) (fun _ _ => ?_))
  dsimp only [lCa, lNa]
  obtain ⟨s2, D4, hD4⟩ : ∃ x y, D3.byte = (x, y) := ⟨_, _, rfl⟩
  have hlD4 : D4.l = D.l := by have := Di.byte_l D3; rw [hD4] at this; rw [← hlD3]; exact this
  rw [hD4]
  dsimp only
  refine ⟨Held.c, ?_⟩
  refine GO 11 18173951 (by kernel_rfl) rfl rfl Gd.no (Ld.call cal39 rfl rfl (Tks.c (.nil _)) (fun F' hF => next_ct F' b A c D4 (by rw [hlD4]; exact hA.mono hF) (by rw [hlD4]; exact hl) 4 (by omega) (by omega)) (fun _ _ => ?_))
  dsimp only [lCa, lNa]
  obtain ⟨t, D5, hD5⟩ : ∃ x y, D4.next 4 = (x, y) := ⟨_, _, rfl⟩
  have hlD5 : D5.l = D.l := by have := Di.next_l D4 4; rw [hD5] at this; rw [← hlD4]; exact this
  have hbD5 : 0 ≤ t ∧ t < 4 := by have := Di.next_lt D4 (m := 4) (by decide); rw [hD5] at this; exact this
  rw [hD5]
  dsimp only
  refine ⟨Held.c, ?_⟩
  refine GT 12 18178047 rfl (by kernel_rfl) rfl rfl Gd.no (by first | exact Qt.iaa01 Try.underlying77 z5 rfl rfl (by omega) (by omega) (rfl : t.toNat = t.toNat) | exact Qt.iaa1 Try.underlying77 z5 rfl rfl (by omega) (by omega) (rfl : t.toNat = t.toNat)) Held.c ?_
  refine GT 13 18186239 rfl (by kernel_rfl) rfl rfl Gd.no (Qt.ldc a5 rfl (Rdc.o (nth_vI (k := .u8) (xs := typL) (by show _ < 4; omega)))) Held.c ?_
  refine GO 15 18219007 (by kernel_rfl) rfl rfl Gd.no (Ld.call cal41 rfl rfl (Tks.c (.nil _)) (fun F' hF => bool_ct F' b A c D5 (by rw [hlD5]; exact hA.mono hF) (by rw [hlD5]; exact hl) 2 (by omega) (by omega)) (fun _ _ => ?_))
  dsimp only [lCa, lNa]
  obtain ⟨de, D6, hD6⟩ : ∃ x y, D5.bool 2 = (x, y) := ⟨_, _, rfl⟩
  have hlD6 : D6.l = D.l := by have := Di.bool_l D5 2; rw [hD6] at this; rw [← hlD5]; exact this
  rw [hD6]
  dsimp only
  refine ⟨Held.c, ?_⟩
  refine GO 17 18350079 (by kernel_rfl) rfl rfl Gd.no (Ld.call cal40 rfl rfl (Tks.c (.nil _)) (fun F' hF => byte_ct F' b A c D6 (by rw [hlD6]; exact hA.mono hF) (by rw [hlD6]; exact hl)) (fun _ _ => ?_))
  dsimp only [lCa, lNa]
  obtain ⟨x0, D7, hD7⟩ : ∃ x y, D6.byte = (x, y) := ⟨_, _, rfl⟩
  have hlD7 : D7.l = D.l := by have := Di.byte_l D6; rw [hD7] at this; rw [← hlD6]; exact this
  rw [hD7]
  dsimp only
  refine ⟨Held.c, ?_⟩
  refine GO 19 18874367 (by kernel_rfl) rfl rfl Gd.no (Ld.call cal40 rfl rfl (Tks.c (.nil _)) (fun F' hF => byte_ct F' b A c D7 (by rw [hlD7]; exact hA.mono hF) (by rw [hlD7]; exact hl)) (fun _ _ => ?_))
  dsimp only [lCa, lNa]
  obtain ⟨x1, D8, hD8⟩ : ∃ x y, D7.byte = (x, y) := ⟨_, _, rfl⟩
  have hlD8 : D8.l = D.l := by have := Di.byte_l D7; rw [hD8] at this; rw [← hlD7]; exact this
  rw [hD8]
  dsimp only
  refine ⟨Held.c, ?_⟩
  refine GO 21 20971519 (by kernel_rfl) rfl rfl Gd.no (Ld.call cal40 rfl rfl (Tks.c (.nil _)) (fun F' hF => byte_ct F' b A c D8 (by rw [hlD8]; exact hA.mono hF) (by rw [hlD8]; exact hl)) (fun _ _ => ?_))
  dsimp only [lCa, lNa]
  obtain ⟨x2, D9, hD9⟩ : ∃ x y, D8.byte = (x, y) := ⟨_, _, rfl⟩
  have hlD9 : D9.l = D.l := by have := Di.byte_l D8; rw [hD9] at this; rw [← hlD8]; exact this
  rw [hD9]
  dsimp only
  refine ⟨Held.c, ?_⟩
  refine GT 22 25165823 rfl (by kernel_rfl) rfl rfl Gd.no (Qt.buildA Try.underlying38 z5 ze38 (.cons rfl rfl (by first | exact Cl.one rfl | exact Cl.agg) rfl (SetM.cons SetAt.k0 (.nil _ _)) (.cons rfl rfl (by first | exact Cl.one rfl | exact Cl.agg) rfl (SetM.cons SetAt.k1 (.nil _ _)) (.cons rfl rfl (by first | exact Cl.one rfl | exact Cl.agg) rfl (SetM.cons SetAt.k2 (.nil _ _)) (.nil _))))) Held.c ?_
  refine GT 23 33554431 rfl (by kernel_rfl) rfl rfl Gd.no (Qt.buildS Try.underlying40 pl40 ze40 (.cons rfl rfl (by first | exact Cl.one rfl | exact Cl.agg) rfl (SetM.cons SetAt.k1 (.nil _ _)) (.cons rfl rfl (by first | exact Cl.one rfl | exact Cl.agg) rfl (SetM.cons SetAt.k2 (.nil _ _)) (.cons rfl rfl (by first | exact Cl.one rfl | exact Cl.agg) rfl (SetM.cons SetAt.k3 (.nil _ _)) (.cons rfl rfl (by first | exact Cl.one rfl | exact Cl.agg) rfl (SetM.cons SetAt.k4 (.nil _ _)) (.cons rfl rfl (by first | exact Cl.one rfl | exact Cl.agg) rfl (SetM.cons SetAt.k5 (.nil _ _)) (.cons rfl rfl (by first | exact Cl.one rfl | exact Cl.agg) rfl (SetM.cons SetAt.k6 (.nil _ _)) (.cons rfl rfl (by first | exact Cl.one rfl | exact Cl.agg) rfl (by repeat constructor) (.nil _))))))))) Held.c ?_
  refine GO 25 67108863 (by kernel_rfl) rfl rfl Gd.no (Ld.stW (by exact z40) rfl rfl (by simp [Value.oneCell']) (E := 40) (by rfl) UpdC.u ?_)
  refine ⟨Held.c, ?_⟩
  refine GH.done (by kernel_rfl) ?_
  refine GK.then (GC.seq (GC.seq (GC.region ?_)))
  refine G.q Gd.no (Qt.mv rfl) rfl ?_
  refine G.ld Gd.no (Ld.call cal41 rfl rfl (Tks.c (.nil _)) (fun F' hF => bool_ct F' b A c D9 (by rw [hlD9]; exact hA.mono hF) (by rw [hlD9]; exact hl) 8 (by omega) (by omega)) (fun _ _ => ?_))
  dsimp only [lCa, lNa]
  obtain ⟨z, D10, hD10⟩ : ∃ x y, D9.bool 8 = (x, y) := ⟨_, _, rfl⟩
  have hlD10 : D10.l = D.l := by have := Di.bool_l D9 8; rw [hD10] at this; rw [← hlD9]; exact this
  rw [hD10]
  dsimp only
  refine G.nil (GK.then ?_)
  refine GC.condb rfl (fun c9 => ?_) (fun c9 => ?_)
  ·try simp only [sB0, sB1, sB2, sB3, sB4, sB5, sB6, sB7, sB8] at c9
   refine GC.region ?_
   refine G.q Gd.no (Qt.fa0 fl40_1 rfl) rfl ?_
   refine G.ld Gd.no (Ld.stc z37 rfl rfl rfl (Stc.o SetAt.k1) ?_)
   refine G.nil (GK.then (GC.seq (GC.region ?_)))
   refine G.q Gd.no (Qt.ldW a40 rfl Rd.o z40) rfl ?_
   refine G.ld Gd.no (Ld.stW (by exact z40) rfl rfl (by simp [Value.oneCell']) (E := 40) (by rfl) UpdC.u ?_)
   refine G.nil (GK.then (GC.ret ?_))
   rw [show RR = (⟨0, 4294967294, g, s1, s2, ix typL t.toNat, de, x0, x1, x2⟩, D10) from by rw [← hRR]; simp only [Di.event, hD1, hD2, hD3, hD4, hD5, hD6, hD7, hD8, hD9, hD10, c9, if_true]]
   refine GK.ret (rs := [.cell 2 40]) rfl (.cellW rfl a40 (by exact z40) Rd.o .nil) () ?_ ?_ (Tks.c (.nil _))
   ·trivial
   ·rfl
  ·try simp only [sB0, sB1, sB2, sB3, sB4, sB5, sB6, sB7, sB8] at c9
   refine GC.skip (GK.then (GC.seq (GC.region ?_)))
   refine G.q Gd.no (Qt.ldW a40 rfl Rd.o z40) rfl ?_
   refine G.ld Gd.no (Ld.stW (by exact z40) rfl rfl (by simp [Value.oneCell']) (E := 40) (by rfl) UpdC.u ?_)
   refine G.nil (GK.then (GC.ret ?_))
   rw [show RR = (⟨0, a, g, s1, s2, ix typL t.toNat, de, x0, x1, x2⟩, D10) from by rw [← hRR]; simp only [Di.event, hD1, hD2, hD3, hD4, hD5, hD6, hD7, hD8, hD9, hD10, c9, Bool.false_eq_true, if_false]]
   refine GK.ret (rs := [.cell 2 40]) rfl (.cellW rfl a40 (by exact z40) Rd.o .nil) () ?_ ?_ (Tks.c (.nil _))
   ·trivial
   ·rfl
end Go.Proofs.Ytbeiciinppmekaa
