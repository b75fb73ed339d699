/-
  baseboardref09's Log: base, header, newest, slot, Slots, end do what the models say; each contract's conditions are its premises.
-/
import Derived.Test.YtbeiciinppmekaaTb
import Derived.Test.YtbeiciinppmekaaLogd
import Derived.Test.YtbeiciinppmekaaProg
namespace Go.Proofs.Ytbeiciinppmekaa
open Go Go.Sx Go.Proofs
set_option maxRecDepth 100000
set_option linter.unusedSimpArgs false
set_option linter.unusedVariables false
/-- A log of baseboardref09. -/
structure Rl where
  first : Int
  S : Int
  over : Bool
  refused : Bool
  last : Int
  held : Bool
  ended : Bool
def rlC (R : Rl) (f : Nat) : List Value := [.pointer (some ⟨f, 0, none⟩), .int .i64 R.first, .int .i64 R.S, .bool R.over, .bool R.refused, .int .i64 R.last, .bool R.held, .bool R.ended]
/-- What holds of a log over its device. -/
structure Rl.Fine (R : Rl) (D : Dev) : Prop where
  f0 : 0 ≤ R.first
  S2 : 2 ≤ R.S
  fS : R.first + R.S ≤ D.nw
  sz : 64 ≤ D.size
  l0 : 0 ≤ R.last
  l1 : R.last ≤ 65535
def Rl.base (R : Rl) (D : Dev) (j : Int) : Int := (R.first + j) * D.size
/-- The header of sector j: sequence number and tail, or zeros. -/
def Rl.hdr (R : Rl) (D : Dev) (j : Int) : Int × Int := if Hd.ok (secL D (R.base D j)) R.S j then (le4 (secL D (R.base D j)) 0, le4 (secL D (R.base D j)) 4) else (0, 0)
def Rl.newestN (R : Rl) (D : Dev) (k : Nat) : Int × Int := (List.range k).foldl (fun p (j : Nat) => if p.1 < (R.hdr D j).1 then R.hdr D j else p) (0, 0)
theorem Rl.newestN_succ (R : Rl) (D : Dev) (k : Nat) : R.newestN D (k + 1) = if (R.newestN D k).1 < (R.hdr D k).1 then R.hdr D k else R.newestN D k := by unfold Rl.newestN; rw [List.range_succ, List.foldl_append]; rfl
def Rl.newest (R : Rl) (D : Dev) : Int × Int := R.newestN D R.S.toNat
def slotR (sl : List Int) : Ev × Bool × Bool :=
  if blankL sl then (Ev.zero, false, true) else if ¬ ix sl 16 = 0 then (Ev.zero, false, false) else ((evDec (sl.take 16)).1, decide ((evDec (sl.take 16)).2 = 0) && decide (¬ (evDec (sl.take 16)).1.id = 0), false)
def slotE (sl : List Int) : Option Ev := if (slotR sl).2.1 then some (slotR sl).1 else none
def ofN (xs : List Int) (k : Nat) : List Ev := (List.range k).filterMap fun i => slotE (slotL xs i)
theorem ofN_some {xs : List Int} {k : Nat} (h : (slotR (slotL xs k)).2.1 = true) : ofN xs (k + 1) = ofN xs k ++ [(slotR (slotL xs k)).1] := by
  unfold ofN
  rw [List.range_succ, List.filterMap_append]
  simp [slotE, h]
theorem ofN_none {xs : List Int} {k : Nat} (h : (slotR (slotL xs k)).2.1 = false) : ofN xs (k + 1) = ofN xs k := by
  unfold ofN
  rw [List.range_succ, List.filterMap_append]
  simp [slotE, h]
theorem ofN_len (xs : List Int) (k : Nat) : (ofN xs k).length ≤ k := by
  unfold ofN
  have := List.length_filterMap_le (fun i => slotE (slotL xs i)) (List.range k)
  simpa using this
def Rl.ofS (R : Rl) (D : Dev) (j : Int) : List Ev := ofN (secL D (R.base D j)) (slotsN D.size.toNat)
theorem secL_len {R : Rl} {D : Dev} (h : D.Fine) {a : Int} (h0 : 0 ≤ a) (h1 : a + D.size ≤ D.n) : (secL D a).length = D.size.toNat := by
  have := h.ok.hn
  have := h.geo.size0
  simp only [secL, List.length_take, List.length_drop]; omega
theorem secL_bytes {D : Dev} (h : D.Fine) (a : Int) : Bytes (secL D a) := fun x hx => h.ok2.bytes x (List.mem_of_mem_drop (List.mem_of_mem_take hx))
theorem secL_vw {F : Fr} {bb : Nat} {sb : List Value} {D : Dev} (hbb : F.h bb = some (Blk.cells (vI .u8 D.bytes ++ sb) 5).toObj) (a : Int) : VwF F (some ⟨bb, a.toNat, none⟩) (vI .u8 (secL D a)) := by
  have := ((VwF.ofPre hbb).drop (n := a.toNat)).take (n := D.size.toNat)
  rw [Nat.zero_add] at this
  simpa [vI, secL, List.map_drop, List.map_take] using this
theorem Rl.base_bd {R : Rl} {D : Dev} (h : D.Fine) (g : R.Fine D) {j : Int} (h0 : 0 ≤ j) (h1 : j < R.S) : 0 ≤ R.base D j ∧ R.base D j + D.size ≤ D.n := by
  have a0 := g.f0
  have a1 := g.fS
  have a2 := g.sz
  have a3 := h.geo.all
  have s0 : 0 ≤ (R.first + j) * D.size := Int.mul_nonneg (by omega) (by omega)
  have s1 : (R.first + j + 1) * D.size ≤ D.nw * D.size := Int.mul_le_mul_of_nonneg_right (by omega) (by omega)
  have s2 : (R.first + j + 1) * D.size = (R.first + j) * D.size + D.size := by rw [Int.add_mul, Int.one_mul]
  unfold Rl.base
  omega
theorem rslots_ct (F : Fr) (n : Int) (h0 : 11 ≤ n) (h1 : n ≤ 1048576) :
    Ct Try.prog F 81 [.int .i64 n] [] (S := Unit) (fun _ => True) (fun _ => .int .i64 ((n - 11) / 17)) (fun _ => []) := by
 refine Ct.of 6 [(0, _)] Try.func81 rfl rfl rfl rfl ?_
 refine GC.seq (GC.region ?_)
 refine G.q Gd.no (Qt.asg rfl) rfl ?_
 refine G.nil (GK.then (GC.seq (GC.region ?_)))
 refine G.q Gd.no (Qt.mv rfl) rfl ?_
 refine G.q Gd.no (Qt.sub rfl rfl (by first | exact i64_id (by omega) (by omega) | exact rfl)) rfl ?_
 refine G.q Gd.no (Qt.quo rfl rfl (by omega) (by first | exact quo_nn (by omega) (i64_id (by omega) (by omega)) | exact rfl)) rfl ?_
 refine G.q Gd.no (Qt.asg rfl) rfl ?_
 refine G.nil (GK.then (GC.ret ?_))
 refine GK.ret (rs := [.tmp 2]) rfl (.tmp rfl .nil) () ?_ ?_ (.nil _)
 ·trivial
 ·rfl
theorem rend_ct (F : Fr) (b f : Nat) (R : Rl) :
    Ct Try.prog F 57 [.pointer (some ⟨b, 0, none⟩)] [(some b, .cells (rlC R f) 105)] (S := Unit) (fun _ => True) (fun _ => .int .i64 10) (fun _ => [(some b, .cells (rlC { R with ended := true, refused := false } f) 105)]) := by
 refine Ct.of 9 [(0, _)] Try.func57 rfl rfl rfl rfl ?_
 refine GC.seq (GC.region ?_)
 refine G.q Gd.no (Qt.asg rfl) rfl ?_
 refine G.nil (GK.then (GC.seq (GC.region ?_)))
 refine G.q Gd.no (Qt.mv rfl) rfl ?_
 refine G.q Gd.no (Qt.nilc rfl) rfl ?_
 refine G.q Gd.no (Qt.fa0 fl105_7 rfl) rfl ?_
 refine G.ld Gd.no (Ld.stc z4 rfl rfl rfl (Stc.o SetAt.k7) ?_)
 refine G.nil (GK.then (GC.seq (GC.region ?_)))
 refine G.q Gd.no (Qt.mv rfl) rfl ?_
 refine G.q Gd.no (Qt.nilc rfl) rfl ?_
 refine G.q Gd.no (Qt.fa0 fl105_4 rfl) rfl ?_
 refine G.ld Gd.no (Ld.stc z4 rfl rfl rfl (Stc.o SetAt.k4) ?_)
 refine G.nil (GK.then (GC.seq (GC.region ?_)))
 refine G.q Gd.no (Qt.asg rfl) rfl ?_
 refine G.nil (GK.then (GC.ret ?_))
 refine GK.ret (rs := [.tmp 2]) rfl (.tmp rfl .nil) () ?_ ?_ (Tks.c (.nil _))
 ·trivial
 ·rfl
theorem rbase_ct (F : Fr) (b f bb bw cb cw : Nat) (R : Rl) (D : Dev) (hb : F.h b = some (Blk.cells (rlC R f) 105).toObj) (hf : F.h f = some (Blk.cells (devC D bb bw cb cw) 102).toObj) (fine : D.Fine) (rf : R.Fine D) (j : Int) (h0 : 0 ≤ j) (h1 : j < R.S) :
    Ct Try.prog F 64 [.pointer (some ⟨b, 0, none⟩), .int .i64 j] [] (S := Unit) (fun _ => True) (fun _ => .int .i64 (R.base D j)) (fun _ => []) := by
 have hbd := Rl.base_bd fine rf h0 h1
 have k0 := rf.f0
 have k1 := rf.fS
 have k2 := fine.ok.wlen
 have k3 := fine.ok.len
 have k4 := rf.sz
 unfold Rl.base at hbd
 refine Ct.of 19 [(0, _), (1, _)] Try.func64 rfl rfl rfl rfl ?_
 refine GC.seq (GC.region ?_)
 refine G.q Gd.no (Qt.asg rfl) rfl ?_
 refine G.nil (GK.then (GC.seq ?_))
 refine GC.draw mixed _ Held.all ?_
 refine GT 0 1 rfl (by kernel_rfl) rfl rfl Gd.no (Qt.mv rfl) Held.c ?_
 refine GT 1 3 rfl (by kernel_rfl) rfl rfl Gd.no (Qt.nilc rfl) Held.c ?_
 refine GT 2 7 rfl (by kernel_rfl) rfl rfl Gd.no (Qt.fa0 fl105_1 rfl) Held.c ?_
 refine GT 3 15 rfl (by kernel_rfl) rfl rfl Gd.no (Qt.ldc a3 rfl (by first | exact Rdc.o rfl | exact Rdc.o (nth_vIs (by omega)) | exact Rdc.o (nth_vI (by omega)) | exact Rdc.f hb rfl | exact Rdc.f hf rfl)) Held.c ?_
 refine GT 4 31 rfl (by kernel_rfl) rfl rfl Gd.no (Qt.mv rfl) Held.c ?_
 refine GT 5 63 rfl (by kernel_rfl) rfl rfl Gd.no (Qt.add rfl rfl (by exact i64_id (by omega) (by omega))) Held.c ?_
 refine GT 6 127 rfl (by kernel_rfl) rfl rfl Gd.no (Qt.mv rfl) Held.c ?_
 refine GT 7 255 rfl (by kernel_rfl) rfl rfl Gd.no (Qt.nilc rfl) Held.c ?_
 refine GT 8 511 rfl (by kernel_rfl) rfl rfl Gd.no (Qt.fa0 fl105_0 rfl) Held.c ?_
 refine GT 9 1023 rfl (by kernel_rfl) rfl rfl Gd.no (Qt.ldc a56 rfl (by first | exact Rdc.o rfl | exact Rdc.o (nth_vIs (by omega)) | exact Rdc.o (nth_vI (by omega)) | exact Rdc.f hb rfl | exact Rdc.f hf rfl)) Held.c ?_
 refine GT 10 2047 rfl (by kernel_rfl) rfl rfl Gd.no (Qt.nilc rfl) Held.c ?_
 refine GT 11 4095 rfl (by kernel_rfl) rfl rfl Gd.no (Qt.fa0 fl102_0 rfl) Held.c ?_
 refine GT 12 8191 rfl (by kernel_rfl) rfl rfl Gd.no (Qt.ldc a3 rfl (by first | exact Rdc.o rfl | exact Rdc.o (nth_vIs (by omega)) | exact Rdc.o (nth_vI (by omega)) | exact Rdc.f hb rfl | exact Rdc.f hf rfl)) Held.c ?_
 refine GT 13 16383 rfl (by kernel_rfl) rfl rfl Gd.no (Qt.mul rfl rfl (by exact i64_id (by omega) (by omega))) Held.c ?_
 refine GT 14 32767 rfl (by kernel_rfl) rfl rfl Gd.no (Qt.asg rfl) Held.c ?_
 refine GH.done (by kernel_rfl) ?_
 refine GK.then (GC.ret ?_)
 refine GK.ret (rs := [.tmp 4]) rfl (.tmp rfl .nil) () ?_ ?_ (.nil _)
 ·trivial
 ·rfl
theorem rheader_ct (F : Fr) (b f bb bw cb cw : Nat) (R : Rl) (D : Dev) (hb : F.h b = some (Blk.cells (rlC R f) 105).toObj) (hf : F.h f = some (Blk.cells (devC D bb bw cb cw) 102).toObj) (fine : D.Fine) (rf : R.Fine D) (sb : List Value) (hbb : F.h bb = some (Blk.cells (vI .u8 D.bytes ++ sb) 5).toObj) (hcb : D.n ≤ cb) (j : Int) (h0 : 0 ≤ j) (h1 : j < R.S) :
    Ct Try.prog F 83 [.pointer (some ⟨b, 0, none⟩), .int .i64 j] [] (S := Unit) (fun _ => True) (fun _ => .tuple #[.int .i64 (R.hdr D j).1, .int .i64 (R.hdr D j).2]) (fun _ => []) := by
 have hbd := Rl.base_bd fine rf h0 h1
 have k4 := rf.sz
 have k5 := fine.geo.size1
 have k6 := fine.ok.len
 have k7 := rf.S2
 have k8 := rf.fS
 have k9 := fine.ok.wlen
 have k10 := rf.f0
 obtain ⟨o, ho⟩ : ∃ o, R.base D j = o := ⟨_, rfl⟩
 rw [ho] at hbd
 have hS := secL_vw hbb o
 have hSl := secL_len (R := R) fine hbd.1 hbd.2
 have hSb := secL_bytes fine o
 obtain ⟨xs, hxs⟩ : ∃ xs, secL D o = xs := ⟨_, rfl⟩
 rw [hxs] at hS hSl hSb
 obtain ⟨r4, q4⟩ := hSb.le4 4
 obtain ⟨r0, q0⟩ := hSb.le4 0
 obtain ⟨r8, q8⟩ := hSb.le2 8
 have hh : R.hdr D j = if Hd.ok xs R.S j then (le4 xs 0, le4 xs 4) else (0, 0) := by unfold Rl.hdr; rw [ho, hxs]
 refine Ct.of 90 [(0, _), (1, _)] Try.func83 rfl rfl rfl rfl ?_
 refine GC.seq (GC.region ?_)
 refine G.q Gd.no (Qt.asg rfl) rfl ?_
 refine G.q Gd.no (Qt.asg rfl) rfl ?_
 refine G.nil (GK.then (GC.seq ?_))
 refine GC.draw mixed _ Held.all ?_
 refine GT 0 1 rfl (by kernel_rfl) rfl rfl Gd.no (Qt.mv rfl) Held.c ?_
 refine GT 1 3 rfl (by kernel_rfl) rfl rfl Gd.no (Qt.nilc rfl) Held.c ?_
 refine GT 2 7 rfl (by kernel_rfl) rfl rfl Gd.no (Qt.fa0 fl105_0 rfl) Held.c ?_
 refine GT 3 15 rfl (by kernel_rfl) rfl rfl Gd.no (by first | exact Qt.ldc a56 rfl (by first | exact Rdc.o rfl | exact Rdc.o (nth_vIs (by omega)) | exact Rdc.o (nth_vI (by omega)) | exact Rdc.f hb rfl | exact Rdc.f hf rfl) | exact Qt.ldF a56 rfl (hS.at' (nth_vI (by omega)))) Held.c ?_
 refine GT 4 31 rfl (by kernel_rfl) rfl rfl Gd.no (Qt.nilc rfl) Held.c ?_
 refine GT 5 63 rfl (by kernel_rfl) rfl rfl Gd.no (Qt.fa0 fl102_1 rfl) Held.c ?_
 refine GT 6 127 rfl (by kernel_rfl) rfl rfl Gd.no (by first | exact Qt.ldc a53 rfl (by first | exact Rdc.o rfl | exact Rdc.o (nth_vIs (by omega)) | exact Rdc.o (nth_vI (by omega)) | exact Rdc.f hb rfl | exact Rdc.f hf rfl) | exact Qt.ldF a53 rfl (hS.at' (nth_vI (by omega)))) Held.c ?_
 refine GT 7 255 rfl (by kernel_rfl) rfl rfl Gd.no (Qt.mv rfl) Held.c ?_
 refine GT 8 511 rfl (by kernel_rfl) rfl rfl Gd.no (Qt.mv rfl) Held.c ?_
 refine GT 10 1535 rfl (by kernel_rfl) rfl rfl Gd.no (Qt.mv rfl) Held.c ?_
 refine GT 11 3583 rfl (by kernel_rfl) rfl rfl Gd.no (Qt.mv rfl) Held.c ?_
 refine GO 9 4095 (by kernel_rfl) rfl rfl Gd.no (Ld.call cal64 rfl rfl (.nil _) (fun F' hF => rbase_ct F' _ _ _ _ _ _ R D (hF.fr hb) (hF.fr hf) fine rf _ h0 h1) (fun _ _ => ?_))
 dsimp only [lCa, lNa]
 rw [ho]
 refine ⟨Held.c, ?_⟩
 refine GO 12 8191 (by kernel_rfl) rfl rfl Gd.no (Ld.call cal64 rfl rfl (.nil _) (fun F' hF => rbase_ct F' _ _ _ _ _ _ R D (hF.fr hb) (hF.fr hf) fine rf _ h0 h1) (fun _ _ => ?_))
 dsimp only [lCa, lNa]
 rw [ho]
 refine ⟨Held.c, ?_⟩
 refine GT 13 16383 rfl (by kernel_rfl) rfl rfl Gd.no (Qt.add rfl rfl (by first | exact i64_id (by omega) (by omega) | exact rfl)) Held.c ?_
 refine GT 14 32767 rfl (by kernel_rfl) rfl rfl Gd.no (Qt.sl Try.underlying53 z5 rfl rfl rfl (by omega) (by omega) (by omega) rfl rfl) Held.c ?_
 rw [slAt_some (by omega), Nat.mul_one, Nat.zero_add, show (o + 11).toNat - o.toNat = 11 by omega]
 refine GT 15 65535 rfl (by kernel_rfl) rfl rfl Gd.no (Qt.asg rfl) Held.c ?_
 refine GH.done (by kernel_rfl) ?_
 refine GK.then (GC.seq (GC.region ?_))
 refine G.q Gd.no (Qt.mv rfl) rfl ?_
 refine G.q Gd.no (Qt.sl Try.underlying53 z5 rfl rfl rfl (by omega) (by omega) (by omega) (show (0 : Int).toNat = 0 from rfl) (show (4 : Int).toNat = 4 from rfl)) rfl ?_
 rw [slAt_some (by omega), show o.toNat + 0 * 1 = o.toNat from rfl]
 refine G.ld Gd.no (Ld.call cal80 rfl rfl (.nil _) (fun F' hF => num_ct F' (some ⟨bb, o.toNat, none⟩) _ [ix xs 0, ix xs 1, ix xs 2, ix xs 3] (vw_cut4 (hS.mono hF) 0 (by omega)) (by simp) (bytes4 hSb 0)) (fun _ _ => ?_))
 dsimp only [lCa, lNa]
 rw [numL4, show ix xs 0 + ix xs 1 * 256 + ix xs 2 * 65536 + ix xs 3 * 16777216 = le4 xs 0 from rfl]
 refine G.q Gd.no (Qt.conv Try.underlying122 Try.underlying3 rfl (by first | exact i64_id (by omega) (by omega) | exact rfl)) rfl ?_
 refine G.q Gd.no (Qt.asg rfl) rfl ?_
 refine G.nil (GK.then (GC.seq (GC.region ?_)))
 refine G.q Gd.no (Qt.mv rfl) rfl ?_
 refine G.q Gd.no (Qt.sl Try.underlying53 z5 rfl rfl rfl (by omega) (by omega) (by omega) (show (4 : Int).toNat = 4 from rfl) (show (8 : Int).toNat = 8 from rfl)) rfl ?_
 rw [slAt_some (by omega), Nat.mul_one]
 refine G.ld Gd.no (Ld.call cal80 rfl rfl (.nil _) (fun F' hF => num_ct F' (some ⟨bb, o.toNat + 4, none⟩) _ [ix xs 4, ix xs 5, ix xs 6, ix xs 7] (vw_cut4 (hS.mono hF) 4 (by omega)) (by simp) (bytes4 hSb 4)) (fun _ _ => ?_))
 dsimp only [lCa, lNa]
 rw [numL4, show ix xs 4 + ix xs 5 * 256 + ix xs 6 * 65536 + ix xs 7 * 16777216 = le4 xs 4 from rfl]
 refine G.q Gd.no (Qt.conv Try.underlying122 Try.underlying3 rfl (by first | exact i64_id (by omega) (by omega) | exact rfl)) rfl ?_
 refine G.q Gd.no (Qt.asg rfl) rfl ?_
 refine G.nil (GK.then (GC.seq (GC.region ?_)))
 refine G.q Gd.no (Qt.mv rfl) rfl ?_
 refine G.q Gd.no (Qt.sl Try.underlying53 z5 rfl rfl rfl (by omega) (by omega) (by omega) (show (8 : Int).toNat = 8 from rfl) (show (10 : Int).toNat = 10 from rfl)) rfl ?_
 rw [slAt_some (by omega), Nat.mul_one]
 refine G.ld Gd.no (Ld.call cal80 rfl rfl (.nil _) (fun F' hF => num_ct F' (some ⟨bb, o.toNat + 8, none⟩) _ [ix xs 8, ix xs 9] (vw_cut2 (hS.mono hF) 8 (by omega)) (by simp) (bytes2 hSb 8)) (fun _ _ => ?_))
 dsimp only [lCa, lNa]
 rw [numL2, show ix xs 8 + ix xs 9 * 256 = le2 xs 8 from rfl]
 refine G.q Gd.no (Qt.conv Try.underlying122 Try.underlying3 rfl (by first | exact i64_id (by omega) (by omega) | exact rfl)) rfl ?_
 refine G.q Gd.no (Qt.asg rfl) rfl ?_
 refine G.nil (GK.then (GC.seq (GC.seq (GC.region ?_))))
 refine G.q Gd.no (Qt.mv rfl) rfl ?_
 refine G.q Gd.no (Qt.ia1 Try.underlying53 z5 rfl rfl (by omega) (by omega) (show (10 : Int).toNat = 10 from rfl)) rfl ?_
 refine G.q Gd.no (Qt.ldF a5 rfl (hS.at' (nth_vI (by omega)))) rfl ?_
 refine G.q Gd.no (Qt.neI rfl rfl) rfl ?_
 refine G.q Gd.no (Qt.mv rfl) rfl ?_
 apply G.orb (seg := [_, _])
 exact rfl
 exact rfl
 exact rfl
 exact Gd.no
 exact rfl
 exact rfl
 ·intro g5; try simp only [sB0, sB1, sB2, sB3, sB4, sB5, sB6, sB7, sB8] at g5
  refine G.q (Gd.yes rfl rfl) (Qt.mv rfl) rfl ?_
  refine G.q (Gd.yes rfl rfl) (Qt.lss rfl rfl) rfl ?_
  refine G.nil (GK.seg (n := [_, _]) rfl rfl rfl (by first | exact Tks.all _ | exact Tks.skip (Tks.all _) | exact Tks.skip (Tks.skip (Tks.all _)) | exact Tks.skip (Tks.skip (Tks.skip (Tks.all _)))))
 refine G.q Gd.no (Qt.mv rfl) rfl ?_
 apply G.orb (seg := [_, _])
 exact rfl
 exact rfl
 exact rfl
 exact Gd.no
 exact rfl
 exact rfl
 ·intro g9; try simp only [sB0, sB1, sB2, sB3, sB4, sB5, sB6, sB7, sB8] at g9
  refine G.q (Gd.yes rfl rfl) (Qt.mv rfl) rfl ?_
  refine G.q (Gd.yes rfl rfl) (Qt.gtr rfl rfl) rfl ?_
  refine G.nil (GK.seg (n := [_, _]) rfl rfl rfl (by first | exact Tks.all _ | exact Tks.skip (Tks.all _) | exact Tks.skip (Tks.skip (Tks.all _)) | exact Tks.skip (Tks.skip (Tks.skip (Tks.all _)))))
 refine G.q Gd.no (Qt.mv rfl) rfl ?_
 apply G.orb (seg := [_, _, _, _, _, _, _, _, _])
 exact rfl
 exact rfl
 exact rfl
 exact Gd.no
 exact rfl
 exact rfl
 ·intro g13; try simp only [sB0, sB1, sB2, sB3, sB4, sB5, sB6, sB7, sB8] at g13
  refine G.q (Gd.yes rfl rfl) (Qt.mv rfl) rfl ?_
  refine G.q (Gd.yes rfl rfl) (Qt.sub rfl rfl (by first | exact i64_id (by omega) (by omega) | exact rfl)) rfl ?_
  refine G.q (Gd.yes rfl rfl) (Qt.mv rfl) rfl ?_
  refine G.q (Gd.yes rfl rfl) (Qt.nilc rfl) rfl ?_
  refine G.q (Gd.yes rfl rfl) (Qt.fa0 fl105_2 rfl) rfl ?_
  refine G.q (Gd.yes rfl rfl) (by first | exact Qt.ldc a3 rfl (by first | exact Rdc.o rfl | exact Rdc.o (nth_vIs (by omega)) | exact Rdc.o (nth_vI (by omega)) | exact Rdc.f hb rfl | exact Rdc.f hf rfl) | exact Qt.ldF a3 rfl (hS.at' (nth_vI (by omega)))) rfl ?_
  refine G.q (Gd.yes rfl rfl) (Qt.rem rfl rfl (by omega) (by first | exact rem_nn (by omega) | exact rfl)) rfl ?_
  refine G.q (Gd.yes rfl rfl) (Qt.mv rfl) rfl ?_
  refine G.q (Gd.yes rfl rfl) (Qt.neI rfl rfl) rfl ?_
  refine G.nil (GK.seg (n := [_, _, _, _, _, _, _, _, _]) rfl rfl rfl (by first | exact Tks.all _ | exact Tks.skip (Tks.all _) | exact Tks.skip (Tks.skip (Tks.all _)) | exact Tks.skip (Tks.skip (Tks.skip (Tks.all _)))))
 refine G.q Gd.no (Qt.mv rfl) rfl ?_
 apply G.orb (seg := [_, _])
 exact rfl
 exact rfl
 exact rfl
 exact Gd.no
 exact rfl
 exact rfl
 ·intro g24; try simp only [sB0, sB1, sB2, sB3, sB4, sB5, sB6, sB7, sB8] at g24
  refine G.q (Gd.yes rfl rfl) (Qt.mv rfl) rfl ?_
  refine G.q (Gd.yes rfl rfl) (Qt.lss rfl rfl) rfl ?_
  refine G.nil (GK.seg (n := [_, _]) rfl rfl rfl (by first | exact Tks.all _ | exact Tks.skip (Tks.all _) | exact Tks.skip (Tks.skip (Tks.all _)) | exact Tks.skip (Tks.skip (Tks.skip (Tks.all _)))))
 refine G.q Gd.no (Qt.mv rfl) rfl ?_
 apply G.orb (seg := [_, _, _])
 exact rfl
 exact rfl
 exact rfl
 exact Gd.no
 exact rfl
 exact rfl
 ·intro g28; try simp only [sB0, sB1, sB2, sB3, sB4, sB5, sB6, sB7, sB8] at g28
  refine G.q (Gd.yes rfl rfl) (Qt.mv rfl) rfl ?_
  refine G.q (Gd.yes rfl rfl) (Qt.mv rfl) rfl ?_
  refine G.q (Gd.yes rfl rfl) (Qt.gtr rfl rfl) rfl ?_
  refine G.nil (GK.seg (n := [_, _, _]) rfl rfl rfl (by first | exact Tks.all _ | exact Tks.skip (Tks.all _) | exact Tks.skip (Tks.skip (Tks.all _)) | exact Tks.skip (Tks.skip (Tks.skip (Tks.all _)))))
 refine G.q Gd.no (Qt.mv rfl) rfl ?_
 apply G.orb (seg := [_, _, _, _, _, _, _, _, _])
 exact rfl
 exact rfl
 exact rfl
 exact Gd.no
 exact rfl
 exact rfl
 ·intro g33; try simp only [sB0, sB1, sB2, sB3, sB4, sB5, sB6, sB7, sB8] at g33
  refine G.q (Gd.yes rfl rfl) (Qt.mv rfl) rfl ?_
  refine G.q (Gd.yes rfl rfl) (Qt.mv rfl) rfl ?_
  refine G.q (Gd.yes rfl rfl) (Qt.sub rfl rfl (by first | exact i64_id (by omega) (by omega) | exact rfl)) rfl ?_
  refine G.q (Gd.yes rfl rfl) (Qt.mv rfl) rfl ?_
  refine G.q (Gd.yes rfl rfl) (Qt.nilc rfl) rfl ?_
  refine G.q (Gd.yes rfl rfl) (Qt.fa0 fl105_2 rfl) rfl ?_
  refine G.q (Gd.yes rfl rfl) (by first | exact Qt.ldc a3 rfl (by first | exact Rdc.o rfl | exact Rdc.o (nth_vIs (by omega)) | exact Rdc.o (nth_vI (by omega)) | exact Rdc.f hb rfl | exact Rdc.f hf rfl) | exact Qt.ldF a3 rfl (hS.at' (nth_vI (by omega)))) rfl ?_
  refine G.q (Gd.yes rfl rfl) (Qt.sub rfl rfl (by first | exact i64_id (by omega) (by omega) | exact rfl)) rfl ?_
  refine G.q (Gd.yes rfl rfl) (Qt.gtr rfl rfl) rfl ?_
  refine G.nil (GK.seg (n := [_, _, _, _, _, _, _, _, _]) rfl rfl rfl (by first | exact Tks.all _ | exact Tks.skip (Tks.all _) | exact Tks.skip (Tks.skip (Tks.all _)) | exact Tks.skip (Tks.skip (Tks.skip (Tks.all _)))))
 refine G.q Gd.no (Qt.mv rfl) rfl ?_
 apply G.orb (seg := [_, _])
 exact rfl
 exact rfl
 exact rfl
 exact Gd.no
 exact rfl
 exact rfl
 ·intro g44; try simp only [sB0, sB1, sB2, sB3, sB4, sB5, sB6, sB7, sB8] at g44
  refine G.q (Gd.yes rfl rfl) (Qt.mv rfl) rfl ?_
  refine G.q (Gd.yes rfl rfl) (Qt.lss rfl rfl) rfl ?_
  refine G.nil (GK.seg (n := [_, _]) rfl rfl rfl (by first | exact Tks.all _ | exact Tks.skip (Tks.all _) | exact Tks.skip (Tks.skip (Tks.all _)) | exact Tks.skip (Tks.skip (Tks.skip (Tks.all _)))))
 refine G.q Gd.no (Qt.mv rfl) rfl ?_
 apply G.orb (seg := [_, _])
 exact rfl
 exact rfl
 exact rfl
 exact Gd.no
 exact rfl
 exact rfl
 ·intro g48; try simp only [sB0, sB1, sB2, sB3, sB4, sB5, sB6, sB7, sB8] at g48
  refine G.q (Gd.yes rfl rfl) (Qt.mv rfl) rfl ?_
  refine G.q (Gd.yes rfl rfl) (Qt.gtr rfl rfl) rfl ?_
  refine G.nil (GK.seg (n := [_, _]) rfl rfl rfl (by first | exact Tks.all _ | exact Tks.skip (Tks.all _) | exact Tks.skip (Tks.skip (Tks.all _)) | exact Tks.skip (Tks.skip (Tks.skip (Tks.all _)))))
 refine G.nil (GK.then ?_)
 refine GC.condb rfl (fun c0 => ?_) (fun c0 => ?_)
 ·try simp only [sB0, sB1, sB2, sB3, sB4, sB5, sB6, sB7, sB8] at c0
  refine GC.seq (GC.region ?_)
  refine G.q Gd.no (Qt.asg rfl) rfl ?_
  refine G.q Gd.no (Qt.asg rfl) rfl ?_
  refine G.nil (GK.then (GC.ret (GK.thenr ?_)))
  rw [hh, show Hd.ok xs R.S j = false from (Hd.ok_eq (by simp only [Bool.false_eq_true, false_iff]; omega)).symm]
  refine GK.ret (rs := [.tmp 4, .tmp 5]) rfl (.tmp rfl (.tmp rfl .nil)) () ?_ ?_ (.nil _)
  ·trivial
  ·rfl
 ·try simp only [sB0, sB1, sB2, sB3, sB4, sB5, sB6, sB7, sB8] at c0
  refine GC.skip (GK.then (GC.seq (GC.region ?_)))
  refine G.q Gd.no (Qt.mv rfl) rfl ?_
  refine G.q Gd.no (Qt.mv rfl) rfl ?_
  refine G.q Gd.no (Qt.asg rfl) rfl ?_
  refine G.q Gd.no (Qt.asg rfl) rfl ?_
  refine G.nil (GK.then (GC.ret ?_))
  rw [hh, show Hd.ok xs R.S j = true from (Hd.ok_eq (by simp only [true_iff]; omega)).symm]
  refine GK.ret (rs := [.tmp 4, .tmp 5]) rfl (.tmp rfl (.tmp rfl .nil)) () ?_ ?_ (.nil _)
  ·trivial
  ·rfl
theorem rnewest_ct (F : Fr) (b f bb bw cb cw : Nat) (R : Rl) (D : Dev) (hb : F.h b = some (Blk.cells (rlC R f) 105).toObj) (hf : F.h f = some (Blk.cells (devC D bb bw cb cw) 102).toObj) (fine : D.Fine) (rf : R.Fine D) (sb : List Value) (hbb : F.h bb = some (Blk.cells (vI .u8 D.bytes ++ sb) 5).toObj) (hcb : D.n ≤ cb) :
    Ct Try.prog F 61 [.pointer (some ⟨b, 0, none⟩)] [] (S := Unit) (fun _ => True) (fun _ => .tuple #[.int .i64 (R.newest D).1, .int .i64 (R.newest D).2]) (fun _ => []) := by
 have k7 := rf.S2
 have k8 := rf.fS
 have k9 := fine.ok.wlen
 have k10 := rf.f0
 refine Ct.of 30 [(0, _)] Try.func61 rfl rfl rfl rfl ?_
 refine GC.seq (GC.region ?_)
 refine G.q Gd.no (Qt.asg rfl) rfl ?_
 refine G.q Gd.no (Qt.asg rfl) rfl ?_
 refine G.nil (GK.then (GC.seq (GC.region ?_)))
 refine G.q Gd.no (Qt.asg rfl) rfl ?_
 refine G.nil (GK.then (GC.seq (GC.region ?_)))
 refine G.q Gd.no (Qt.asg rfl) rfl ?_
 refine G.nil (GK.then (GC.seq (GC.seq (GC.region ?_))))
 refine G.q Gd.no (Qt.asg rfl) rfl ?_
 refine G.nil (GK.then (GC.block ?_))
 refine GC.loop (S := Nat) (fun x => (x : Int) ≤ R.S) (fun x => R.S.toNat - x)
  (fun x => [(0, .pointer (some ⟨b, 0, none⟩)), (4, .int .i64 (R.newestN D x).1), (5, .int .i64 (R.newestN D x).2), (6, .int .i64 (x : Int))]) (fun x => []) 0 ?_ ?_ ?_ ?_
 ·(simp only [Int.natCast_zero]; omega)
 ·exact ⟨rfl, rfl, rfl, rfl, trivial⟩
 ·exact ⟨_, (.nil _)⟩
 intro x hx
 refine GC.seq (GC.seq (GC.region ?_))
 refine G.q Gd.no (Qt.mv rfl) rfl ?_
 refine G.q Gd.no (Qt.mv rfl) rfl ?_
 refine G.q Gd.no (Qt.nilc rfl) rfl ?_
 refine G.q Gd.no (Qt.fa0 fl105_2 rfl) rfl ?_
 refine G.q Gd.no (Qt.ldc a3 rfl (by first | exact Rdc.o rfl | exact Rdc.o (nth_vIs (by omega)) | exact Rdc.o (nth_vI (by omega)) | exact Rdc.f hb rfl | exact Rdc.f hf rfl)) rfl ?_
 refine G.q Gd.no (Qt.lss rfl rfl) rfl ?_
 refine G.nil (GK.then ?_)
 refine GC.condb rfl (fun c0 => ?_) (fun c0 => ?_)
 ·try simp only [sB0, sB1, sB2, sB3, sB4, sB5, sB6, sB7, sB8] at c0
  refine GC.skip (GK.then (GC.seq (GC.block (GC.seq (GC.region ?_)))))
  refine G.q Gd.no (Qt.mv rfl) rfl ?_
  refine G.q Gd.no (Qt.mv rfl) rfl ?_
  refine G.ld Gd.no (Ld.call cal83 rfl rfl (.nil _) (fun F' hF => rheader_ct F' _ _ _ _ _ _ R D (hF.fr hb) (hF.fr hf) fine rf _ (hF.fr hbb) hcb _ (by omega) (by omega)) (fun _ _ => ?_))
  dsimp only [lCa, lNa]
  refine G.q Gd.no (Qt.mv rfl) rfl ?_
  refine G.q Gd.no (Qt.ext rfl rfl) rfl ?_
  refine G.q Gd.no (Qt.ext rfl rfl) rfl ?_
  refine G.q Gd.no (Qt.asg rfl) rfl ?_
  refine G.q Gd.no (Qt.asg rfl) rfl ?_
  refine G.nil (GK.then (GC.seq (GC.region ?_)))
  refine G.q Gd.no (Qt.mv rfl) rfl ?_
  refine G.q Gd.no (Qt.mv rfl) rfl ?_
  refine G.q Gd.no (Qt.gtr rfl rfl) rfl ?_
  refine G.nil (GK.then ?_)
  refine GC.condb rfl (fun c1 => ?_) (fun c1 => ?_)
  ·try simp only [sB0, sB1, sB2, sB3, sB4, sB5, sB6, sB7, sB8] at c1
   refine GC.seq (GC.region ?_)
   refine G.q Gd.no (Qt.mv rfl) rfl ?_
   refine G.q Gd.no (Qt.asg rfl) rfl ?_
   refine G.nil (GK.then (GC.region ?_))
   refine G.q Gd.no (Qt.mv rfl) rfl ?_
   refine G.q Gd.no (Qt.asg rfl) rfl ?_
   refine G.nil (GK.blockn (GK.then (GC.region ?_)))
   refine G.q Gd.no (Qt.mv rfl) rfl ?_
   refine G.q Gd.no (Qt.add rfl rfl (by first | exact i64_id (by omega) (by omega) | exact rfl)) rfl ?_
   refine G.q Gd.no (Qt.asg rfl) rfl ?_
   refine G.nil ?_
   refine GK.head (x + 1) ?_ ?_ ?_ ?_
   ·omega
   ·omega
   ·(rw [R.newestN_succ D x, if_pos c1]; exact ⟨rfl, rfl, rfl, rfl, trivial⟩)
   ·exact ⟨_, (.nil _)⟩
  ·try simp only [sB0, sB1, sB2, sB3, sB4, sB5, sB6, sB7, sB8] at c1
   refine GC.skip (GK.blockn (GK.then (GC.region ?_)))
   refine G.q Gd.no (Qt.mv rfl) rfl ?_
   refine G.q Gd.no (Qt.add rfl rfl (by first | exact i64_id (by omega) (by omega) | exact rfl)) rfl ?_
   refine G.q Gd.no (Qt.asg rfl) rfl ?_
   refine G.nil ?_
   refine GK.head (x + 1) ?_ ?_ ?_ ?_
   ·omega
   ·omega
   ·(rw [R.newestN_succ D x, if_neg c1]; exact ⟨rfl, rfl, rfl, rfl, trivial⟩)
   ·exact ⟨_, (.nil _)⟩
 ·try simp only [sB0, sB1, sB2, sB3, sB4, sB5, sB6, sB7, sB8] at c0
  refine GC.exit (GK.thene (GK.thene (GK.blocke (GK.then (GC.seq (GC.region ?_))))))
  refine G.q Gd.no (Qt.mv rfl) rfl ?_
  refine G.q Gd.no (Qt.mv rfl) rfl ?_
  refine G.q Gd.no (Qt.asg rfl) rfl ?_
  refine G.q Gd.no (Qt.asg rfl) rfl ?_
  refine G.nil (GK.then (GC.ret ?_))
  rw [show R.newest D = R.newestN D x from by unfold Rl.newest; rw [show R.S.toNat = x by omega]]
  refine GK.ret (rs := [.tmp 2, .tmp 3]) rfl (.tmp rfl (.tmp rfl .nil)) () ?_ ?_ (.nil _)
  ·trivial
  ·rfl
theorem rslot_ct (F : Fr) (b f bb bw cb cw : Nat) (R : Rl) (D : Dev) (hb : F.h b = some (Blk.cells (rlC R f) 105).toObj) (hf : F.h f = some (Blk.cells (devC D bb bw cb cw) 102).toObj) (fine : D.Fine) (rf : R.Fine D) (sb : List Value) (hbb : F.h bb = some (Blk.cells (vI .u8 D.bytes ++ sb) 5).toObj) (hcb : D.n ≤ cb) (j : Int) (h0 : 0 ≤ j) (h1 : j < R.S) (i : Nat) (hi : 11 + i * 17 + 17 ≤ D.size) :
    Ct Try.prog F 82 [.pointer (some ⟨b, 0, none⟩), .int .i64 j, .int .i64 i] [] (S := Unit) (fun _ => True) (fun _ => .tuple #[.agg (evC (slotR (slotL (secL D (R.base D j)) i)).1).toArray, .bool (slotR (slotL (secL D (R.base D j)) i)).2.1, .bool (slotR (slotL (secL D (R.base D j)) i)).2.2]) (fun _ => []) := by
 have hbd := Rl.base_bd fine rf h0 h1
 have k4 := rf.sz
 have k5 := fine.geo.size1
 have k6 := fine.ok.len
 obtain ⟨o, ho⟩ : ∃ o, R.base D j = o := ⟨_, rfl⟩
 rw [ho] at hbd ⊢
 have hS := secL_vw hbb o
 have hSl := secL_len (R := R) fine hbd.1 hbd.2
 have hSb := secL_bytes fine o
 obtain ⟨xs, hxs⟩ : ∃ xs, secL D o = xs := ⟨_, rfl⟩
 rw [hxs] at hS hSl hSb ⊢
 have hS2 : VwF F (some ⟨bb, o.toNat + (11 + i * 17), none⟩) (vI .u8 (slotL xs i)) := by have h := takeI (n := 17) (dropI (n := 11 + i * 17) hS); rw [add_addr] at h; exact h
 have hsl : (slotL xs i).length = 17 := slotL_len (by omega)
 have hsb := slotL_bytes hSb i
 obtain ⟨sl, hslx⟩ : ∃ sl, slotL xs i = sl := ⟨_, rfl⟩
 rw [hslx] at hS2 hsl hsb ⊢
 obtain ⟨ee, hee⟩ : ∃ ee, evDec (sl.take 16) = ee := ⟨_, rfl⟩
 refine Ct.of 53 [(0, _), (1, _), (2, _)] Try.func82 rfl rfl rfl rfl ?_
 refine GC.seq (GC.region ?_)
 refine G.ld Gd.no (Ld.alloc rfl ze40 (by first | exact Cl.one rfl | exact Cl.agg) (fun b6 => ?_))
 refine G.q Gd.no (Qt.asg rfl) rfl ?_
 refine G.q Gd.no (Qt.asg rfl) rfl ?_
 refine G.nil (GK.then (GC.seq (GC.region ?_)))
 refine G.q Gd.no (Qt.mv rfl) rfl ?_
 refine G.q Gd.no (Qt.mv rfl) rfl ?_
 refine G.ld Gd.no (Ld.call cal64 rfl rfl (.nil _) (fun F' hF => rbase_ct F' _ _ _ _ _ _ R D (hF.fr hb) (hF.fr hf) fine rf _ h0 h1) (fun _ _ => ?_))
 dsimp only [lCa, lNa]
 rw [ho]
 refine G.q Gd.no (Qt.add rfl rfl (by first | exact i64_id (by omega) (by omega) | exact rfl)) rfl ?_
 refine G.q Gd.no (Qt.mv rfl) rfl ?_
 refine G.q Gd.no (Qt.mul rfl rfl (by first | exact i64_id (by omega) (by omega) | exact rfl)) rfl ?_
 refine G.q Gd.no (Qt.add rfl rfl (by first | exact i64_id (by omega) (by omega) | exact rfl)) rfl ?_
 refine G.q Gd.no (Qt.asg rfl) rfl ?_
 refine G.nil (GK.then (GC.seq (GC.region ?_)))
 refine G.q Gd.no (Qt.mv rfl) rfl ?_
 refine G.q Gd.no (Qt.nilc rfl) rfl ?_
 refine G.q Gd.no (Qt.fa0 fl105_0 rfl) rfl ?_
 refine G.q Gd.no (by first | exact Qt.ldc a56 rfl (by first | exact Rdc.o rfl | exact Rdc.o (nth_vIs (by omega)) | exact Rdc.o (nth_vI (by omega)) | exact Rdc.f hb rfl | exact Rdc.f hf rfl) | exact Qt.ldF a56 rfl (hS2.at' (nth_vI (by omega)))) rfl ?_
 refine G.q Gd.no (Qt.nilc rfl) rfl ?_
 refine G.q Gd.no (Qt.fa0 fl102_1 rfl) rfl ?_
 refine G.q Gd.no (by first | exact Qt.ldc a53 rfl (by first | exact Rdc.o rfl | exact Rdc.o (nth_vIs (by omega)) | exact Rdc.o (nth_vI (by omega)) | exact Rdc.f hb rfl | exact Rdc.f hf rfl) | exact Qt.ldF a53 rfl (hS2.at' (nth_vI (by omega)))) rfl ?_
 refine G.q Gd.no (Qt.mv rfl) rfl ?_
 refine G.q Gd.no (Qt.mv rfl) rfl ?_
 refine G.q Gd.no (Qt.add rfl rfl (by first | exact i64_id (by omega) (by omega) | exact rfl)) rfl ?_
 refine G.q Gd.no (Qt.sl Try.underlying53 z5 rfl rfl rfl (by omega) (by omega) (by omega) rfl rfl) rfl ?_
 rw [slAt_some (by omega), Nat.mul_one, Nat.zero_add, show (o + 11 + 17 * (i : Int) + 17).toNat - (o + 11 + 17 * (i : Int)).toNat = 17 by omega, show (o + 11 + 17 * (i : Int)).toNat = o.toNat + (11 + i * 17) by omega]
 refine G.q Gd.no (Qt.asg rfl) rfl ?_
 refine G.nil (GK.then (GC.seq (GC.seq (GC.region ?_))))
 refine G.q Gd.no (Qt.mv rfl) rfl ?_
 refine G.ld Gd.no (Ld.call cal84 rfl rfl (.nil _) (fun F' hF => by have h := rblank_ct F' (some ⟨bb, o.toNat + (11 + i * 17), none⟩) (cb - (o.toNat + (11 + i * 17))) sl (hS2.mono hF) (by omega); rw [hsl] at h; exact h) (fun _ _ => ?_))
 dsimp only [lCa, lNa]
 rw [show (sl.all fun x => decide (x = 255)) = blankL sl from rfl]
 refine G.nil (GK.then ?_)
 refine GC.condb rfl (fun c0 => ?_) (fun c0 => ?_)
 ·try simp only [sB0, sB1, sB2, sB3, sB4, sB5, sB6, sB7, sB8] at c0
  refine GC.seq (GC.region ?_)
  refine G.q Gd.no (Qt.buildS Try.underlying40 pl40 ze40 (.nil _)) rfl ?_
  refine G.ld Gd.no (Ld.stW (by exact z40) rfl rfl (by simp [Value.oneCell']) (E := 40) (by rfl) UpdC.u ?_)
  refine G.q Gd.no (Qt.asg rfl) rfl ?_
  refine G.q Gd.no (Qt.asg rfl) rfl ?_
  refine G.nil (GK.then (GC.ret (GK.thenr ?_)))
  rw [show slotR sl = (Ev.zero, false, true) from if_pos c0]
  refine GK.ret (rs := [.cell 6 40, .tmp 7, .tmp 8]) rfl (.cellW rfl a40 (by exact z40) Rd.o (.tmp rfl (.tmp rfl .nil))) () ?_ ?_ (.nil _)
  ·trivial
  ·rfl
 ·try simp only [sB0, sB1, sB2, sB3, sB4, sB5, sB6, sB7, sB8] at c0
  refine GC.skip (GK.then (GC.seq (GC.seq (GC.region ?_))))
  refine G.q Gd.no (Qt.mv rfl) rfl ?_
  refine G.q Gd.no (Qt.ia1 Try.underlying53 z5 rfl rfl (by omega) (by omega) (show (16 : Int).toNat = 16 from rfl)) rfl ?_
  refine G.q Gd.no (Qt.ldF a5 rfl (hS2.at' (nth_vI (by omega)))) rfl ?_
  refine G.q Gd.no (Qt.neI rfl rfl) rfl ?_
  refine G.nil (GK.then ?_)
  refine GC.condb rfl (fun c1 => ?_) (fun c1 => ?_)
  ·try simp only [sB0, sB1, sB2, sB3, sB4, sB5, sB6, sB7, sB8] at c1
   refine GC.seq (GC.region ?_)
   refine G.q Gd.no (Qt.buildS Try.underlying40 pl40 ze40 (.nil _)) rfl ?_
   refine G.ld Gd.no (Ld.stW (by exact z40) rfl rfl (by simp [Value.oneCell']) (E := 40) (by rfl) UpdC.u ?_)
   refine G.q Gd.no (Qt.asg rfl) rfl ?_
   refine G.q Gd.no (Qt.asg rfl) rfl ?_
   refine G.nil (GK.then (GC.ret (GK.thenr ?_)))
   rw [show slotR sl = (Ev.zero, false, false) from by unfold slotR; rw [if_neg (by simp [c0]), if_pos c1]]
   refine GK.ret (rs := [.cell 6 40, .tmp 7, .tmp 8]) rfl (.cellW rfl a40 (by exact z40) Rd.o (.tmp rfl (.tmp rfl .nil))) () ?_ ?_ (.nil _)
   ·trivial
   ·rfl
  ·try simp only [sB0, sB1, sB2, sB3, sB4, sB5, sB6, sB7, sB8] at c1
   refine GC.skip (GK.then (GC.seq (GC.region ?_)))
   refine G.q Gd.no (Qt.mv rfl) rfl ?_
   refine G.q Gd.no (Qt.slH Try.underlying53 z5 rfl rfl (by omega) (by omega) (show (16 : Int).toNat = 16 from rfl)) rfl ?_
   refine G.ld Gd.no (Ld.call cal98 rfl rfl (.nil _) (fun F' hF => rdec_ct F' ⟨bb, o.toNat + (11 + i * 17), none⟩ _ (sl.take 16) ((takeI hS2).mono hF) (by rw [List.length_take, hsl]; rfl) (by omega) (hsb.take 16)) (fun _ _ => ?_))
   dsimp only [lCa, lNa]
   rw [hee]
   refine G.q Gd.no (Qt.mv rfl) rfl ?_
   refine G.q Gd.no (Qt.ext rfl rfl) rfl ?_
   refine G.q Gd.no (Qt.ext rfl rfl) rfl ?_
   refine G.ld Gd.no (Ld.alloc rfl ze40 (by first | exact Cl.one rfl | exact Cl.agg) (fun b11 => ?_))
   refine G.ld Gd.no (Ld.stW (by exact z40) rfl rfl (evC_one _) (E := 40) (by rfl) UpdC.u ?_)
   refine G.q Gd.no (Qt.asg rfl) rfl ?_
   refine G.nil (GK.then (GC.seq ?_))
   refine GC.draw mixed _ (Held.tk (b := some b11) Held.none) ?_
   refine GT 0 1 rfl (by kernel_rfl) rfl rfl Gd.no (Qt.ldW a40 rfl Rd.o z40) Held.c ?_
   refine GT 1 3 rfl (by kernel_rfl) rfl rfl Gd.no (Qt.mv rfl) Held.c ?_
   refine GT 2 7 rfl (by kernel_rfl) rfl rfl Gd.no (Qt.eqI rfl rfl) Held.c ?_
   refine GT 3 15 rfl (by kernel_rfl) rfl rfl Gd.no (Qt.mv rfl) Held.c ?_
   refine GH.split (tg := 48) rfl (fun g3 => ?_) (fun g3 => ?_)
   ·try simp only [sB0, sB1, sB2, sB3, sB4, sB5, sB6, sB7, sB8] at g3
    refine GT 4 31 rfl (by kernel_rfl) rfl rfl (Gd.yes rfl rfl) (Qt.fa0 fl40_0 rfl) Held.c ?_
    refine GT 5 63 rfl (by kernel_rfl) rfl rfl (Gd.yes rfl rfl) (by first | exact Qt.ldc a36 rfl (by first | exact Rdc.o rfl | exact Rdc.o (nth_vIs (by omega)) | exact Rdc.o (nth_vI (by omega)) | exact Rdc.f hb rfl | exact Rdc.f hf rfl) | exact Qt.ldF a36 rfl (hS2.at' (nth_vI (by omega)))) Held.c ?_
    refine GT 6 127 rfl (by kernel_rfl) rfl rfl (Gd.yes rfl rfl) (Qt.neI rfl rfl) Held.c ?_
    refine GT 7 255 rfl (by kernel_rfl) rfl rfl Gd.no (Qt.pickt rfl rfl) Held.c ?_
    refine GO 8 511 (by kernel_rfl) rfl rfl Gd.no (Ld.stW (by exact z40) rfl rfl (evC_one _) (E := 40) (by rfl) UpdC.u ?_)
    refine ⟨Held.c, ?_⟩
    refine GT 9 1023 rfl (by kernel_rfl) rfl rfl Gd.no (Qt.asg rfl) Held.c ?_
    refine GT 10 2047 rfl (by kernel_rfl) rfl rfl Gd.no (Qt.asg rfl) Held.c ?_
    refine GH.done (by kernel_rfl) ?_
    refine GK.then (GC.ret ?_)
    rw [show slotR sl = (ee.1, decide (ee.2 = 0) && decide (¬ ee.1.id = 0), false) from by unfold slotR; rw [if_neg (by simp [c0]), if_neg (by simp [c1]), hee]]
    simp only [g3, decide_true, decide_false, Bool.true_and, Bool.false_and]
    refine GK.ret (rs := [.cell 6 40, .tmp 7, .tmp 8]) rfl (.cellW rfl a40 (by exact z40) Rd.o (.tmp rfl (.tmp rfl .nil))) () ?_ ?_ (.nil _)
    ·trivial
    ·rfl
   ·try simp only [sB0, sB1, sB2, sB3, sB4, sB5, sB6, sB7, sB8] at g3
    refine GP 4 31 rfl (by kernel_rfl) rfl rfl rfl rfl rfl Held.c ?_
    refine GP 5 63 rfl (by kernel_rfl) rfl rfl rfl rfl rfl Held.c ?_
    refine GP 6 127 rfl (by kernel_rfl) rfl rfl rfl rfl rfl Held.c ?_
    refine GT 7 255 rfl (by kernel_rfl) rfl rfl Gd.no (Qt.pickf rfl rfl) Held.c ?_
    refine GO 8 511 (by kernel_rfl) rfl rfl Gd.no (Ld.stW (by exact z40) rfl rfl (evC_one _) (E := 40) (by rfl) UpdC.u ?_)
    refine ⟨Held.c, ?_⟩
    refine GT 9 1023 rfl (by kernel_rfl) rfl rfl Gd.no (Qt.asg rfl) Held.c ?_
    refine GT 10 2047 rfl (by kernel_rfl) rfl rfl Gd.no (Qt.asg rfl) Held.c ?_
    refine GH.done (by kernel_rfl) ?_
    refine GK.then (GC.ret ?_)
    rw [show slotR sl = (ee.1, decide (ee.2 = 0) && decide (¬ ee.1.id = 0), false) from by unfold slotR; rw [if_neg (by simp [c0]), if_neg (by simp [c1]), hee]]
    simp only [g3, decide_true, decide_false, Bool.true_and, Bool.false_and]
    refine GK.ret (rs := [.cell 6 40, .tmp 7, .tmp 8]) rfl (.cellW rfl a40 (by exact z40) Rd.o (.tmp rfl (.tmp rfl .nil))) () ?_ ?_ (.nil _)
    ·trivial
    ·rfl
theorem rof_ct (F : Fr) (b f bb bw cb cw : Nat) (R : Rl) (D : Dev) (hb : F.h b = some (Blk.cells (rlC R f) 105).toObj) (hf : F.h f = some (Blk.cells (devC D bb bw cb cw) 102).toObj) (fine : D.Fine) (rf : R.Fine D) (sb : List Value) (hbb : F.h bb = some (Blk.cells (vI .u8 D.bytes ++ sb) 5).toObj) (hcb : D.n ≤ cb) (j : Int) (h0 : 0 ≤ j) (h1 : j < R.S) :
    Ct Try.prog F 79 [.pointer (some ⟨b, 0, none⟩), .int .i64 j] [] (S := Option Nat × Nat × List Value) (fun x => (R.ofS D j).length * 10 + x.2.2.length = x.2.1 * 10 ∧ (x.1 = none → R.ofS D j = [] ∧ x.2.2 = [] ∧ x.2.1 = 0) ∧ (∀ q, x.1 = some q → 0 < (R.ofS D j).length)) (fun x => .slice (oA x.1) (R.ofS D j).length x.2.1) (fun x => [(x.1, .cells ((R.ofS D j).flatMap evC ++ x.2.2) 40)]) := by
 have k4 := rf.sz
 have k5 := fine.geo.size1
 obtain ⟨xs, hxs⟩ : ∃ xs, secL D (R.base D j) = xs := ⟨_, rfl⟩
 have hof : R.ofS D j = ofN xs (slotsN D.size.toNat) := by unfold Rl.ofS; rw [hxs]
 rw [hof]
 have hsl : (slotsN D.size.toNat : Int) = (D.size - 11) / 17 := by unfold slotsN; omega
 have hsl2 : slotsN D.size.toNat ≤ 65536 := by unfold slotsN; omega
 refine Ct.of 36 [(0, _), (1, _)] Try.func79 rfl rfl rfl rfl ?_
 refine GC.seq (GC.region ?_)
 refine G.q Gd.no (Qt.asg rfl) rfl ?_
 refine G.nil (GK.then (GC.seq (GC.region ?_)))
 refine G.q Gd.no (Qt.asg rfl) rfl ?_
 refine G.nil (GK.then (GC.seq (GC.seq (GC.region ?_))))
 refine G.q Gd.no (Qt.asg rfl) rfl ?_
 refine G.nil (GK.then (GC.block ?_))
 refine GC.addNil (.cells (([] : List Ev).flatMap evC ++ []) 40) ?_
 refine GC.loop (S := Nat × Option Nat × Nat × List Value) (fun x => x.1 ≤ slotsN D.size.toNat ∧ (ofN xs x.1).length * 10 + x.2.2.2.length = x.2.2.1 * 10 ∧ (x.2.1 = none → ofN xs x.1 = [] ∧ x.2.2.2 = [] ∧ x.2.2.1 = 0) ∧ (∀ q, x.2.1 = some q → 0 < (ofN xs x.1).length)) (fun x => slotsN D.size.toNat - x.1)
  (fun x => [(0, .pointer (some ⟨b, 0, none⟩)), (1, .int .i64 j), (5, .slice (oA x.2.1) (ofN xs x.1).length x.2.2.1), (6, .int .i64 (x.1 : Int))]) (fun x => [(x.2.1, .cells ((ofN xs x.1).flatMap evC ++ x.2.2.2) 40)]) (0, none, 0, []) ?_ ?_ ?_ ?_
 ·exact ⟨by simp, rfl, fun _ => ⟨rfl, rfl, rfl⟩, fun _ e => by cases e⟩
 ·exact ⟨rfl, rfl, rfl, rfl, trivial⟩
 ·exact ⟨_, (Tks.c (.nil _))⟩
 intro ⟨i, ob, cc, sp⟩ ⟨h2, h3, h4, h7⟩
 simp only at h2 h3 h4 h7
 have hle := ofN_len xs i
 refine GC.seq (GC.seq (GC.region ?_))
 refine G.q Gd.no (Qt.mv rfl) rfl ?_
 refine G.q Gd.no (Qt.mv rfl) rfl ?_
 refine G.q Gd.no (Qt.nilc rfl) rfl ?_
 refine G.q Gd.no (Qt.fa0 fl105_0 rfl) rfl ?_
 refine G.q Gd.no (Qt.ldc a56 rfl (by first | exact Rdc.o rfl | exact Rdc.o (nth_vIs (by omega)) | exact Rdc.o (nth_vI (by omega)) | exact Rdc.f hb rfl | exact Rdc.f hf rfl)) rfl ?_
 refine G.q Gd.no (Qt.nilc rfl) rfl ?_
 refine G.q Gd.no (Qt.fa0 fl102_0 rfl) rfl ?_
 refine G.q Gd.no (Qt.ldc a3 rfl (by first | exact Rdc.o rfl | exact Rdc.o (nth_vIs (by omega)) | exact Rdc.o (nth_vI (by omega)) | exact Rdc.f hb rfl | exact Rdc.f hf rfl)) rfl ?_
 refine G.ld Gd.no (Ld.call cal81 rfl rfl (.nil _) (fun F' hF => rslots_ct F' _ (by omega) (by omega)) (fun _ _ => ?_))
 dsimp only [lCa, lNa]
 refine G.q Gd.no (Qt.lss rfl rfl) rfl ?_
 refine G.nil (GK.then ?_)
 refine GC.condb rfl (fun c0 => ?_) (fun c0 => ?_)
 ·try simp only [sB0, sB1, sB2, sB3, sB4, sB5, sB6, sB7, sB8] at c0
  have hin : i < slotsN D.size.toNat := by omega
  have hi : 11 + (i : Int) * 17 + 17 ≤ D.size := by unfold slotsN at hin; omega
  refine GC.skip (GK.then (GC.seq (GC.block (GC.seq (GC.region ?_)))))
  refine G.q Gd.no (Qt.mv rfl) rfl ?_
  refine G.q Gd.no (Qt.mv rfl) rfl ?_
  refine G.q Gd.no (Qt.mv rfl) rfl ?_
  refine G.ld Gd.no (Ld.call cal82 rfl rfl (.nil _) (fun F' hF => rslot_ct F' _ _ _ _ _ _ R D (hF.fr hb) (hF.fr hf) fine rf _ (hF.fr hbb) hcb _ h0 h1 i hi) (fun _ _ => ?_))
  dsimp only [lCa, lNa]
  rw [hxs]
  refine G.q Gd.no (Qt.mv rfl) rfl ?_
  refine G.q Gd.no (Qt.ext rfl rfl) rfl ?_
  refine G.q Gd.no (Qt.ext rfl rfl) rfl ?_
  refine G.q Gd.no (Qt.ext rfl rfl) rfl ?_
  refine G.ld Gd.no (Ld.alloc rfl ze40 (by first | exact Cl.one rfl | exact Cl.agg) (fun b7 => ?_))
  refine G.ld Gd.no (Ld.stW (by exact z40) rfl rfl (evC_one _) (E := 40) (by rfl) UpdC.u ?_)
  refine G.q Gd.no (Qt.asg rfl) rfl ?_
  refine G.q Gd.no (Qt.asg rfl) rfl ?_
  refine G.nil (GK.then (GC.seq (GC.region ?_)))
  refine G.q Gd.no (Qt.mv rfl) rfl ?_
  refine G.nil (GK.then ?_)
  refine GC.condb rfl (fun c1 => ?_) (fun c1 => ?_)
  ·try simp only [sB0, sB1, sB2, sB3, sB4, sB5, sB6, sB7, sB8] at c1
   have hof2 := ofN_some c1
   refine GC.region ?_
   refine G.q Gd.no (Qt.mv rfl) rfl ?_
   refine G.q Gd.no (Qt.ldW a40 rfl Rd.o z40) rfl ?_
   refine G.ld Gd.no (Ld.bsl1 rfl Try.underlying29 z40 ze40 (by first | exact Cl.one rfl | exact Cl.agg) (by rfl) (by decide) (by decide) rfl (by first | exact Cl.one rfl | exact Cl.agg) (by rfl) (fun b33 => ?_))
   refine G.ld Gd.no (Ld.appS (f := evC) (ys := [(slotR (slotL xs i)).1]) Try.underlying29 z40 by40 ze40 (by first | exact Cl.one rfl | exact Cl.agg) rfl rfl evC_len evC_one rfl rfl (Vw.all Rd.o) h3 (fun e => by obtain ⟨h5, h6, _⟩ := h4 e; exact ⟨h5, h6, by simp⟩) (by simp only [List.length_cons, List.length_nil]; omega) (by decide) (by simp only [List.length_cons, List.length_nil]; omega) (fun b' c' sp' hcap => ?_))
   refine G.q Gd.no (Qt.asg rfl) rfl ?_
   refine G.nil (GK.blockn (GK.then (GC.region ?_)))
   refine G.q Gd.no (Qt.mv rfl) rfl ?_
   refine G.q Gd.no (Qt.add rfl rfl (by first | exact i64_id (by omega) (by omega) | exact rfl)) rfl ?_
   refine G.q Gd.no (Qt.asg rfl) rfl ?_
   refine G.nil ?_
   rw [← hof2]
   refine GK.head (i + 1, some b', c', sp') ?_ ?_ ?_ ?_
   ·simp only; omega
   ·exact ⟨by simp only; omega, by simp only; rw [← hof2] at hcap; exact hcap, (fun e => by cases e), fun _ _ => by simp only; rw [hof2]; simp⟩
   ·exact ⟨rfl, rfl, rfl, rfl, trivial⟩
   ·exact ⟨_, (Tks.c (.nil _))⟩
  ·try simp only [sB0, sB1, sB2, sB3, sB4, sB5, sB6, sB7, sB8] at c1
   have hof2 := ofN_none c1
   refine GC.skip (GK.blockn (GK.then (GC.region ?_)))
   refine G.q Gd.no (Qt.mv rfl) rfl ?_
   refine G.q Gd.no (Qt.add rfl rfl (by first | exact i64_id (by omega) (by omega) | exact rfl)) rfl ?_
   refine G.q Gd.no (Qt.asg rfl) rfl ?_
   refine G.nil ?_
   rw [← hof2]
   refine GK.head (i + 1, ob, cc, sp) ?_ ?_ ?_ ?_
   ·simp only; omega
   ·exact ⟨by simp only; omega, by simp only [hof2]; exact h3, by simp only [hof2]; exact h4, by simp only [hof2]; exact h7⟩
   ·exact ⟨rfl, rfl, rfl, rfl, trivial⟩
   ·exact ⟨_, (Tks.c (.nil _))⟩
 ·try simp only [sB0, sB1, sB2, sB3, sB4, sB5, sB6, sB7, sB8] at c0
  refine GC.exit (GK.thene (GK.thene (GK.blocke (GK.then (GC.seq (GC.region ?_))))))
  refine G.q Gd.no (Qt.mv rfl) rfl ?_
  refine G.q Gd.no (Qt.asg rfl) rfl ?_
  refine G.nil (GK.then (GC.ret ?_))
  obtain rfl : i = slotsN D.size.toNat := by omega
  refine GK.ret (rs := [.tmp 4]) rfl (.tmp rfl .nil) (ob, cc, sp) ?_ ?_ (Tks.c (.nil _))
  ·exact ⟨h3, h4, h7⟩
  ·rfl
end Go.Proofs.Ytbeiciinppmekaa
