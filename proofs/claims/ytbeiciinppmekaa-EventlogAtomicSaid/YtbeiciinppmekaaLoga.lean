/-
  The helpers of package eventlog do what the models say: numbers, slots, headers; each contract's conditions are its premises.
-/
import Derived.Test.YtbeiciinppmekaaTb
import Derived.Test.YtbeiciinppmekaaEvb
import Derived.Test.YtbeiciinppmekaaProg
namespace Go.Proofs.Ytbeiciinppmekaa
open Go Go.Sx Go.Proofs
set_option maxRecDepth 100000
set_option linter.unusedSimpArgs false
set_option linter.unusedVariables false
def le4 (xs : List Int) (k : Nat) : Int := ix xs k + ix xs (k + 1) * 256 + ix xs (k + 2) * 65536 + ix xs (k + 3) * 16777216
def le2 (xs : List Int) (k : Nat) : Int := ix xs k + ix xs (k + 1) * 256
theorem ix_drop (xs : List Int) (n k : Nat) : ix (xs.drop n) k = ix xs (n + k) := by simp [ix]
theorem le4_drop (xs : List Int) (n : Nat) : le4 (xs.drop n) 0 = le4 xs n := by simp [le4, ix_drop]
theorem Bytes.le4 {xs : List Int} (h : Bytes xs) (k : Nat) : 0 ≤ le4 xs k ∧ le4 xs k ≤ 4294967295 := by
  have h0 := h.ix k
  have h1 := h.ix (k + 1)
  have h2 := h.ix (k + 2)
  have h3 := h.ix (k + 3)
  unfold Go.Proofs.Ytbeiciinppmekaa.le4
  omega
theorem Bytes.le2 {xs : List Int} (h : Bytes xs) (k : Nat) : 0 ≤ le2 xs k ∧ le2 xs k ≤ 65535 := by
  have h0 := h.ix k
  have h1 := h.ix (k + 1)
  unfold Go.Proofs.Ytbeiciinppmekaa.le2
  omega
theorem dropI {F : Fr} {A : Addr} {n : Nat} {xs : List Int} (h : VwF F (some A) (vI .u8 xs)) : VwF F (some (A.add n)) (vI .u8 (xs.drop n)) := by
  have := h.dropA (n := n)
  simpa [vI, List.map_drop] using this
theorem takeI {F : Fr} {A : Option Addr} {n : Nat} {xs : List Int} (h : VwF F A (vI .u8 xs)) : VwF F A (vI .u8 (xs.take n)) := by
  have := h.take (n := n)
  simpa [vI, List.map_take] using this
theorem litL4 (n : Int) : litL 4 n = [n % 256, n / 256 % 256, n / 65536 % 256, n / 16777216 % 256] := by
  rw [show litL 4 n = [n / 1 % 256, n / 256 % 256, n / 65536 % 256, n / 16777216 % 256] from rfl, Int.ediv_one]
def behind (i : Int) : Int := if i = 65534 then 1 else i + 1
def blankL (xs : List Int) : Bool := xs.all fun x => decide (x = 255)
theorem blankL_any (xs : List Int) : (!(xs.any fun x => decide (¬ x = 255))) = blankL xs := by
  induction xs with
  | nil => rfl
  | cons x xs ih => simp only [blankL, List.any_cons, List.all_cons, Bool.not_or] at ih ⊢; rw [ih]; simp
theorem read4_ct (F : Fr) (A : Addr) (n c : Nat) (xs : List Int) (hA : VwF F (some A) (vI .u8 xs)) (hl : xs.length = n) (h4 : 4 ≤ n) (hb : Bytes xs) :
    Ct Try.prog F 74 [.slice (some A) n c] [] (S := Unit) (fun _ => True) (fun _ => .int .i64 (le4 xs 0)) (fun _ => []) := by
 obtain ⟨r0, q0⟩ := hb.ix 0
 obtain ⟨r1, q1⟩ := hb.ix 1
 obtain ⟨r2, q2⟩ := hb.ix 2
 obtain ⟨r3, q3⟩ := hb.ix 3
 refine Ct.of 25 [(0, _)] Try.func74 rfl rfl rfl rfl ?_
 refine GC.seq (GC.region ?_)
 refine G.q Gd.no (Qt.asg rfl) rfl ?_
 refine G.nil (GK.then (GC.seq ?_))
 refine GC.draw mixed _ Held.all ?_
 refine GT 0 1 rfl (by kernel_rfl) rfl rfl Gd.no (Qt.mv rfl) Held.c ?_
 refine GT 1 3 rfl (by kernel_rfl) rfl rfl Gd.no (by first | exact Qt.iab01 Try.underlying53 z5 rfl rfl (by omega) (by omega) (show (0 : Int).toNat = 0 from rfl) | exact Qt.ia1 Try.underlying53 z5 rfl rfl (by omega) (by omega) (show (0 : Int).toNat = 0 from rfl)) Held.c ?_
 refine GT 2 7 rfl (by kernel_rfl) rfl rfl Gd.no (by first | exact Qt.ldc a5 rfl (by first | exact Rdc.o rfl | exact Rdc.o (nth_vIs (by omega)) | exact Rdc.o (nth_vI (by omega))) | exact Qt.ldF a5 rfl (hA.at' (nth_vI (by omega)))) Held.c ?_
 refine GT 3 15 rfl (by kernel_rfl) rfl rfl Gd.no (Qt.conv Try.underlying5 Try.underlying3 rfl (by first | exact i64_id (by omega) (by omega) | exact rfl)) Held.c ?_
 refine GT 4 31 rfl (by kernel_rfl) rfl rfl Gd.no (Qt.mv rfl) Held.c ?_
 refine GT 5 63 rfl (by kernel_rfl) rfl rfl Gd.no (by first | exact Qt.iab01 Try.underlying53 z5 rfl rfl (by omega) (by omega) (show (1 : Int).toNat = 1 from rfl) | exact Qt.ia1 Try.underlying53 z5 rfl rfl (by omega) (by omega) (show (1 : Int).toNat = 1 from rfl)) Held.c ?_
 refine GT 6 127 rfl (by kernel_rfl) rfl rfl Gd.no (by first | exact Qt.ldc a5 rfl (by first | exact Rdc.o rfl | exact Rdc.o (nth_vIs (by omega)) | exact Rdc.o (nth_vI (by omega))) | exact Qt.ldF a5 rfl (hA.at' (nth_vI (by omega)))) Held.c ?_
 refine GT 7 255 rfl (by kernel_rfl) rfl rfl Gd.no (Qt.conv Try.underlying5 Try.underlying3 rfl (by first | exact i64_id (by omega) (by omega) | exact rfl)) Held.c ?_
 refine GT 8 511 rfl (by kernel_rfl) rfl rfl Gd.no (Qt.shl rfl rfl (by omega) (shlv_lit (k := .i64) 8 (m := 256) (by decide) (by decide) (i64_id (by omega) (by omega)))) Held.c ?_
 refine GT 9 1023 rfl (by kernel_rfl) rfl rfl Gd.no (Qt.or rfl rfl) Held.c ?_
 rw [bor_lo64 (m := 256) 8 (by decide) (by omega) (by omega) (by omega) (by omega)]
 refine GT 10 2047 rfl (by kernel_rfl) rfl rfl Gd.no (Qt.mv rfl) Held.c ?_
 refine GT 11 4095 rfl (by kernel_rfl) rfl rfl Gd.no (by first | exact Qt.iab01 Try.underlying53 z5 rfl rfl (by omega) (by omega) (show (2 : Int).toNat = 2 from rfl) | exact Qt.ia1 Try.underlying53 z5 rfl rfl (by omega) (by omega) (show (2 : Int).toNat = 2 from rfl)) Held.c ?_
 refine GT 12 8191 rfl (by kernel_rfl) rfl rfl Gd.no (by first | exact Qt.ldc a5 rfl (by first | exact Rdc.o rfl | exact Rdc.o (nth_vIs (by omega)) | exact Rdc.o (nth_vI (by omega))) | exact Qt.ldF a5 rfl (hA.at' (nth_vI (by omega)))) Held.c ?_
 refine GT 13 16383 rfl (by kernel_rfl) rfl rfl Gd.no (Qt.conv Try.underlying5 Try.underlying3 rfl (by first | exact i64_id (by omega) (by omega) | exact rfl)) Held.c ?_
 refine GT 14 32767 rfl (by kernel_rfl) rfl rfl Gd.no (Qt.shl rfl rfl (by omega) (shlv_lit (k := .i64) 16 (m := 65536) (by decide) (by decide) (i64_id (by omega) (by omega)))) Held.c ?_
 refine GT 15 65535 rfl (by kernel_rfl) rfl rfl Gd.no (Qt.or rfl rfl) Held.c ?_
 rw [bor_lo64 (m := 65536) 16 (by decide) (by omega) (by omega) (by omega) (by omega)]
 refine GT 16 131071 rfl (by kernel_rfl) rfl rfl Gd.no (Qt.mv rfl) Held.c ?_
 refine GT 17 262143 rfl (by kernel_rfl) rfl rfl Gd.no (by first | exact Qt.iab01 Try.underlying53 z5 rfl rfl (by omega) (by omega) (show (3 : Int).toNat = 3 from rfl) | exact Qt.ia1 Try.underlying53 z5 rfl rfl (by omega) (by omega) (show (3 : Int).toNat = 3 from rfl)) Held.c ?_
 refine GT 18 524287 rfl (by kernel_rfl) rfl rfl Gd.no (by first | exact Qt.ldc a5 rfl (by first | exact Rdc.o rfl | exact Rdc.o (nth_vIs (by omega)) | exact Rdc.o (nth_vI (by omega))) | exact Qt.ldF a5 rfl (hA.at' (nth_vI (by omega)))) Held.c ?_
 refine GT 19 1048575 rfl (by kernel_rfl) rfl rfl Gd.no (Qt.conv Try.underlying5 Try.underlying3 rfl (by first | exact i64_id (by omega) (by omega) | exact rfl)) Held.c ?_
 refine GT 20 2097151 rfl (by kernel_rfl) rfl rfl Gd.no (Qt.shl rfl rfl (by omega) (shlv_lit (k := .i64) 24 (m := 16777216) (by decide) (by decide) (i64_id (by omega) (by omega)))) Held.c ?_
 refine GT 21 4194303 rfl (by kernel_rfl) rfl rfl Gd.no (Qt.or rfl rfl) Held.c ?_
 rw [bor_lo64 (m := 16777216) 24 (by decide) (by omega) (by omega) (by omega) (by omega)]
 refine GT 22 8388607 rfl (by kernel_rfl) rfl rfl Gd.no (Qt.asg rfl) Held.c ?_
 refine GH.done (by kernel_rfl) ?_
 refine GK.then (GC.ret ?_)
 refine GK.ret (rs := [.tmp 2]) rfl (.tmp rfl .nil) () ?_ ?_ (.nil _)
 ·trivial
 ·rfl
theorem write4_ct (F : Fr) (n : Int) (h0 : 0 ≤ n) (h1 : n ≤ 4294967295) :
    Ct Try.prog F 91 [.int .i64 n] [] (S := Nat) (fun _ => True) (fun x => .slice (some ⟨x, 0, none⟩) 4 4) (fun x => [(some x, .cells (vI .u8 (litL 4 n) ++ []) 5)]) := by
 refine Ct.of 15 [(0, _)] Try.func91 rfl rfl rfl rfl ?_
 refine GC.seq (GC.region ?_)
 refine G.q Gd.no (Qt.asg rfl) rfl ?_
 refine G.nil (GK.then (GC.seq (GC.region ?_)))
 refine G.q Gd.no (Qt.mv rfl) rfl ?_
 refine G.q Gd.no (Qt.conv Try.underlying3 Try.underlying5 rfl (by exact u8_mod _)) rfl ?_
 refine G.q Gd.no (Qt.mv rfl) rfl ?_
 refine G.q Gd.no (Qt.shr rfl rfl (by omega) (shrv_lit (k := .i64) 8 _ (by decide))) rfl ?_
 refine G.q Gd.no (Qt.conv Try.underlying3 Try.underlying5 rfl (by exact u8_mod _)) rfl ?_
 refine G.q Gd.no (Qt.mv rfl) rfl ?_
 refine G.q Gd.no (Qt.shr rfl rfl (by omega) (shrv_lit (k := .i64) 16 _ (by decide))) rfl ?_
 refine G.q Gd.no (Qt.conv Try.underlying3 Try.underlying5 rfl (by exact u8_mod _)) rfl ?_
 refine G.q Gd.no (Qt.mv rfl) rfl ?_
 refine G.q Gd.no (Qt.shr rfl rfl (by omega) (shrv_lit (k := .i64) 24 _ (by decide))) rfl ?_
 refine G.q Gd.no (Qt.conv Try.underlying3 Try.underlying5 rfl (by exact u8_mod _)) rfl ?_
 refine G.ld Gd.no (Ld.bsl (xs := [.tmp 4, .tmp 7, .tmp 10, .tmp 13]) rfl Try.underlying53 z5 ze5 rfl rfl rfl rfl rfl (by simp [Value.oneCell']) (fun b14 => ?_))
 refine G.q Gd.no (Qt.asg rfl) rfl ?_
 refine G.nil (GK.then (GC.ret ?_))
 rw [List.append_nil, litL4]
 refine GK.ret (rs := [.tmp 2]) rfl (.tmp rfl .nil) b14 ?_ ?_ (Tks.c (.nil _))
 ·trivial
 ·rfl
theorem behind_ct (F : Fr) (i : Int) (h0 : 0 ≤ i) (h1 : i ≤ 65534) :
    Ct Try.prog F 47 [.int .u16 i] [] (S := Unit) (fun _ => True) (fun _ => .int .u16 (behind i)) (fun _ => []) := by
 refine Ct.of 7 [(0, _)] Try.func47 rfl rfl rfl rfl ?_
 refine GC.seq (GC.region ?_)
 refine G.q Gd.no (Qt.asg rfl) rfl ?_
 refine G.nil (GK.then (GC.seq (GC.seq (GC.region ?_))))
 refine G.q Gd.no (Qt.mv rfl) rfl ?_
 refine G.q Gd.no (Qt.eqI rfl rfl) rfl ?_
 refine G.nil (GK.then ?_)
 refine GC.condb rfl (fun c0 => ?_) (fun c0 => ?_)
 ·try simp only [sB0, sB1, sB2, sB3, sB4, sB5, sB6, sB7, sB8] at c0
  refine GC.seq (GC.region ?_)
  refine G.q Gd.no (Qt.asg rfl) rfl ?_
  refine G.nil (GK.then (GC.ret (GK.thenr ?_)))
  rw [show behind i = 1 from if_pos c0]
  refine GK.ret (rs := [.tmp 2]) rfl (.tmp rfl .nil) () ?_ ?_ (.nil _)
  ·trivial
  ·rfl
 ·try simp only [sB0, sB1, sB2, sB3, sB4, sB5, sB6, sB7, sB8] at c0
  refine GC.skip (GK.then (GC.seq (GC.region ?_)))
  refine G.q Gd.no (Qt.mv rfl) rfl ?_
  refine G.q Gd.no (Qt.add rfl rfl (by first | exact u16_id (by omega) (by omega) | exact rfl)) rfl ?_
  refine G.q Gd.no (Qt.asg rfl) rfl ?_
  refine G.nil (GK.then (GC.ret ?_))
  rw [show behind i = i + 1 from if_neg c0]
  refine GK.ret (rs := [.tmp 2]) rfl (.tmp rfl .nil) () ?_ ?_ (.nil _)
  ·trivial
  ·rfl
theorem slots_ct (F : Fr) (n : Int) (h0 : 11 ≤ n) (h1 : n ≤ 1048576) :
    Ct Try.prog F 38 [.int .i64 n] [] (S := Unit) (fun _ => True) (fun _ => .int .i64 ((n - 11) / 17)) (fun _ => []) := by
 refine Ct.of 6 [(0, _)] Try.func38 rfl rfl rfl rfl ?_
 refine GC.seq (GC.region ?_)
 refine G.q Gd.no (Qt.asg rfl) rfl ?_
 refine G.nil (GK.then (GC.seq (GC.region ?_)))
 refine G.q Gd.no (Qt.mv rfl) rfl ?_
 refine G.q Gd.no (Qt.sub rfl rfl (by first | exact i64_id (by omega) (by omega) | exact rfl)) rfl ?_
 refine G.q Gd.no (Qt.quo rfl rfl (by omega) (by first | exact quo_nn (by omega) (i64_id (by omega) (by omega)) | exact rfl)) rfl ?_
 refine G.q Gd.no (Qt.asg rfl) rfl ?_
 refine G.nil (GK.then (GC.ret ?_))
 refine GK.ret (rs := [.tmp 2]) rfl (.tmp rfl .nil) () ?_ ?_ (.nil _)
 ·trivial
 ·rfl
theorem slot_ct (F : Fr) (A : Addr) (n c : Nat) (i : Int) (h0 : 0 ≤ i) (h1 : 11 + i * 17 + 17 ≤ n) (hc : n ≤ c) (hn : n ≤ 1048576) :
    Ct Try.prog F 75 [.slice (some A) n c, .int .i64 i] [] (S := Unit) (fun _ => True) (fun _ => .slice (some (A.add (11 + i * 17).toNat)) 17 (c - (11 + i * 17).toNat)) (fun _ => []) := by
 refine Ct.of 14 [(0, _), (1, _)] Try.func75 rfl rfl rfl rfl ?_
 refine GC.seq (GC.region ?_)
 refine G.q Gd.no (Qt.asg rfl) rfl ?_
 refine G.nil (GK.then (GC.seq (GC.region ?_)))
 refine G.q Gd.no (Qt.mv rfl) rfl ?_
 refine G.q Gd.no (Qt.mul rfl rfl (by first | exact i64_id (by omega) (by omega) | exact rfl)) rfl ?_
 refine G.q Gd.no (Qt.add rfl rfl (by first | exact i64_id (by omega) (by omega) | exact rfl)) rfl ?_
 refine G.q Gd.no (Qt.asg rfl) rfl ?_
 refine G.nil (GK.then (GC.seq (GC.region ?_)))
 refine G.q Gd.no (Qt.mv rfl) rfl ?_
 refine G.q Gd.no (Qt.mv rfl) rfl ?_
 refine G.q Gd.no (Qt.mv rfl) rfl ?_
 refine G.q Gd.no (Qt.add rfl rfl (by first | exact i64_id (by omega) (by omega) | exact rfl)) rfl ?_
 refine G.q Gd.no (Qt.sl Try.underlying53 z5 rfl rfl rfl (by omega) (by omega) (by omega) rfl rfl) rfl ?_
 rw [slAt_any (by omega), Nat.mul_one, show (11 + i * 17 + 17).toNat - (11 + i * 17).toNat = 17 by omega]
 refine G.q Gd.no (Qt.asg rfl) rfl ?_
 refine G.nil (GK.then (GC.ret ?_))
 refine GK.ret (rs := [.tmp 4]) rfl (.tmp rfl .nil) () ?_ ?_ (.nil _)
 ·trivial
 ·rfl
theorem blank1_ct (F : Fr) (n : Int) :
    Ct Try.prog F 95 [.int .u8 n] [] (S := Unit) (fun _ => True) (fun _ => .bool (decide (¬ n = 255))) (fun _ => []) := by
 refine Ct.of 5 [(0, _)] Try.func95 rfl rfl rfl rfl ?_
 refine GC.seq (GC.region ?_)
 refine G.q Gd.no (Qt.asg rfl) rfl ?_
 refine G.nil (GK.then (GC.seq (GC.region ?_)))
 refine G.q Gd.no (Qt.mv rfl) rfl ?_
 refine G.q Gd.no (Qt.neI rfl rfl) rfl ?_
 refine G.q Gd.no (Qt.asg rfl) rfl ?_
 refine G.nil (GK.then (GC.ret ?_))
 refine GK.ret (rs := [.tmp 2]) rfl (.tmp rfl .nil) () ?_ ?_ (.nil _)
 ·trivial
 ·rfl
theorem blank_ct (F : Fr) (A : Option Addr) (n c : Nat) (xs : List Int) (hA : VwF F A (vI .u8 xs)) (hl : xs.length = n) (hx : n ≤ 1048576) :
    Ct Try.prog F 76 [.slice A n c] [] (S := Unit) (fun _ => True) (fun _ => .bool (blankL xs)) (fun _ => []) := by
 subst hl
 refine Ct.of 6 [(0, _)] Try.func76 rfl rfl rfl rfl ?_
 refine GC.seq (GC.region ?_)
 refine G.q Gd.no (Qt.asg rfl) rfl ?_
 refine G.nil (GK.then (GC.seq (GC.region ?_)))
 refine G.q Gd.no (Qt.mv rfl) rfl ?_
 refine G.ld Gd.no (Ld.call cal94 rfl rfl (.nil _) (fun F' hF => containsB_ct F' A c xs (hA.mono hF) (by omega) (fun x => decide (¬ x = 255)) 95 [] cal95 (fun F2 R2 h2 n => blank1_ct F2 n)) (fun _ _ => ?_))
 dsimp only [lCa, lNa]
 refine G.q Gd.no (Qt.not rfl) rfl ?_
 refine G.q Gd.no (Qt.asg rfl) rfl ?_
 refine G.nil (GK.then (GC.ret ?_))
 refine GK.ret (rs := [.tmp 2]) rfl (.tmp rfl .nil) () ?_ ?_ (.nil _)
 ·trivial
 ·exact congrArg Value.bool (blankL_any xs)
end Go.Proofs.Ytbeiciinppmekaa
