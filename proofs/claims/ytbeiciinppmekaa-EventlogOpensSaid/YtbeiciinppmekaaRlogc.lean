/-
  baseboardref09's Log: open, Reserve, Clear, Get, Open do what the models say; each contract's conditions are its premises.
-/
import Derived.Test.YtbeiciinppmekaaTb
import Derived.Test.YtbeiciinppmekaaRlogb
import Derived.Test.YtbeiciinppmekaaLogg
import Derived.Test.YtbeiciinppmekaaProg
namespace Go.Proofs.Ytbeiciinppmekaa
open Go Go.Sx Go.Proofs
set_option maxRecDepth 100000
set_option linter.unusedSimpArgs false
set_option linter.unusedVariables false
theorem litL2 (n : Int) (h0 : 0 ≤ n) (h1 : n ≤ 65535) : litL 2 n = [n % 256, n / 256] := by
  rw [show litL 2 n = [n / 1 % 256, n / 256 % 256] from rfl, Int.ediv_one, show n / 256 % 256 = n / 256 by omega]
theorem hdL_eq (q t i : Int) (h0 : 0 ≤ i) (h1 : i ≤ 65535) : litL 4 q ++ litL 4 t ++ litL 2 i = hdL q t i := by rw [litL2 i h0 h1]; rfl
/-- The device behind open, and its error. -/
def Rl.openT (R : Rl) (D : Dev) (tail : Int) : Dev × Int :=
  if 2147483648 < (R.newest D).1 + 1 then (D, 3) else
  openP D (R.first + (R.newest D).1 % R.S) ((R.newest D).1 + 1) (if tail = 0 then (R.newest D).1 + 1 else tail) (R.nextID D)
def Rl.endR (R : Rl) : Rl := { R with ended := true, refused := false }
def Rl.clear (R : Rl) (D : Dev) (r : Int) : Rl × Dev × Int :=
  if R.ended || D.down then (R.endR, D, 10) else
  if R.held = false ∨ ¬ r = R.last then (R, D, 11) else
  if 0 < (R.records D).length then
    if (R.openT D 0).2 = 10 then (R.endR, (R.openT D 0).1, 10) else
    if (R.openT D 0).2 = 0 then ({ R with held := false, refused := false }, (R.openT D 0).1, 0) else (R, (R.openT D 0).1, (R.openT D 0).2)
  else ({ R with held := false, refused := false }, D, 0)
theorem Rl.openT_fine {R : Rl} {D : Dev} (h : D.Fine) (t : Int) : (R.openT D t).1.Fine ∧ (R.openT D t).1.Like D := by
  unfold Rl.openT
  split
  · exact ⟨h, Dev.Like.refl D⟩
  · exact openP_fine h _ _ _ _
theorem Rl.Fine.like {R : Rl} {D E : Dev} (h : R.Fine D) (l : E.Like D) : R.Fine E := ⟨h.f0, h.S2, by rw [l.2.1]; exact h.fS, by rw [l.2.2]; exact h.sz, h.l0, h.l1⟩
theorem ropen_e {R : Rl} {D E : Dev} {q t x e : Int} (hnew : R.newest D = (q, t)) (h0 : ¬ 2147483648 < q + 1) (hE : openE D (R.first + q % R.S) = (E, e)) (he : ¬ e = 0) : R.openT D x = (E, e) := by
  unfold Rl.openT openP
  rw [hnew]; dsimp only
  rw [if_neg h0, hE]
  simp only [he, if_false]
theorem ropen_p {R : Rl} {D E E2 : Dev} {q t x e e2 : Int} (hnew : R.newest D = (q, t)) (h0 : ¬ 2147483648 < q + 1) (hE : openE D (R.first + q % R.S) = (E, e)) (he : e = 0) (hP : E.program ((R.first + q % R.S) * D.size) (hdL (q + 1) (if x = 0 then q + 1 else x) (R.nextID D)) = (E2, e2)) (h2 : ¬ e2 = 0) : R.openT D x = (E2, e2) := by
  unfold Rl.openT openP
  rw [hnew]; dsimp only
  rw [if_neg h0, hE]
  simp only [he, if_true, hP, h2, if_false]
theorem ropen_q {R : Rl} {D E E2 E3 : Dev} {q t x e e2 e3 : Int} (hnew : R.newest D = (q, t)) (h0 : ¬ 2147483648 < q + 1) (hE : openE D (R.first + q % R.S) = (E, e)) (he : e = 0) (hP : E.program ((R.first + q % R.S) * D.size) (hdL (q + 1) (if x = 0 then q + 1 else x) (R.nextID D)) = (E2, e2)) (h2 : e2 = 0) (hQ : E2.program ((R.first + q % R.S) * D.size + 10) [0] = (E3, e3)) : R.openT D x = (E3, e3) := by
  unfold Rl.openT openP
  rw [hnew]; dsimp only
  rw [if_neg h0, hE]
  simp only [he, if_true, hP, h2, hQ]
theorem getL_noE {l : List Ev} {id : Int} (h : ∀ j y, j < l.length → l[j]? = some y → hit id y = false) : getL l id = (Ev.zero, 0, 8) := by
  unfold getL
  rw [if_pos (fidx_missG h)]
theorem getL_yesE {l : List Ev} {id : Int} {k : Nat} {u : Ev} (hu : l[k]? = some u) (hp : hit id u = true) (hb : ∀ j y, j < k → l[j]? = some y → hit id y = false) : getL l id = (u, ((l[k + 1]?).map (·.id)).getD 0, 0) := by
  unfold getL
  rw [fidx_hitG hu hp hb, if_neg (by omega)]
  simp only [Int.toNat_natCast, List.getD_eq_getElem?_getD, hu, Option.getD_some]
theorem Rl.records_len {R : Rl} {D : Dev} (h : D.Fine) (hS : R.S ≤ 1048576) : (R.records D).length ≤ 68719476736 := by
  have hq := R.newest_bd D
  have h1 := R.recsN_len h (R.newest D).2 ((R.newest D).1 + 1 - (R.newest D).2).toNat
  unfold Rl.records
  split
  · simp
  · split
    · have h2 : ((R.newest D).1 + 1 - (R.newest D).2).toNat ≤ 1048576 := by omega
      have h3 : ((R.newest D).1 + 1 - (R.newest D).2).toNat * 65536 ≤ 1048576 * 65536 := Nat.mul_le_mul_right _ h2
      omega
    · simp
def Rl.open0 (first S : Int) (over : Bool) : Rl := ⟨first, S, over, false, 0, false, false⟩
/-- Is there no room for a log of S sectors from first on? -/
def noRoom (nw : Nat) (first S : Int) : Bool := decide (S < 2 ∨ nw < S ∨ first < 0 ∨ nw - S < first)
set_option maxHeartbeats 1600000 in
theorem ropen_ct (F : Fr) (b f bb bw cb cw : Nat) (sb sw : List Value) (R : Rl) (D : Dev) (hb : F.h b = some (Blk.cells (rlC R f) 105).toObj) (fine : D.Fine) (rf : R.Fine D) (hcb : D.n ≤ cb) (hdn : D.down = false) (tail : Int) (ht0 : 0 ≤ tail) (ht1 : tail ≤ 4294967295) :
    Ct Try.prog F 62 [.pointer (some ⟨b, 0, none⟩), .int .i64 tail] [(some f, .cells (devC D bb bw cb cw) 102), (some bb, .cells (vI .u8 D.bytes ++ sb) 5), (some bw, .cells (vI .i64 D.wear ++ sw) 3)] (S := Unit) (fun _ => True) (fun _ => .int .i64 (R.openT D tail).2) (fun _ => [(some f, .cells (devC (R.openT D tail).1 bb bw cb cw) 102), (some bb, .cells (vI .u8 (R.openT D tail).1.bytes ++ sb) 5), (some bw, .cells (vI .i64 (R.openT D tail).1.wear ++ sw) 3)]) := by
 have k7 := rf.S2
 have k8 := rf.fS
 have k9 := fine.ok.wlen
 have k10 := rf.f0
 have k4 := rf.sz
 have k5 := fine.geo.size1
 have k6 := fine.ok.len
 obtain ⟨q, t, hnew⟩ : ∃ q t, R.newest D = (q, t) := ⟨_, _, rfl⟩
 have hq := R.newest_bd D
 rw [hnew] at hq
 dsimp only at hq
 obtain ⟨hq0, hq1, hq2, hq3, hq4⟩ := hq
 refine Ct.of 101 [(0, _), (1, _)] Try.func62 rfl rfl rfl rfl ?_
 obtain ⟨RR, hRR⟩ : ∃ RR, R.openT D tail = RR := ⟨_, rfl⟩
 rw [hRR]
 refine GC.seq (GC.region ?_)
 refine G.q Gd.no (Qt.asg rfl) rfl ?_
 refine G.nil (GK.then (GC.seq (GC.region ?_)))
 refine G.q Gd.no (Qt.mv rfl) rfl ?_
 refine G.ld Gd.no (Ld.call cal61 rfl rfl (.nil _) (fun F' hF => rnewest_ct F' _ _ _ _ _ _ R D (hF.fr hb) (hF.own In.o) fine rf _ (hF.own In.o) hcb) (fun _ _ => ?_))
 dsimp only [lCa, lNa]
 rw [hnew]
 dsimp only
 refine G.q Gd.no (Qt.mv rfl) rfl ?_
 refine G.q Gd.no (Qt.ext rfl rfl) rfl ?_
 refine G.q Gd.no (Qt.ext rfl rfl) rfl ?_
 refine G.q Gd.no (Qt.asg rfl) rfl ?_
 refine G.q Gd.no (Qt.asg rfl) rfl ?_
 refine G.nil (GK.then (GC.seq (GC.region ?_)))
 refine G.q Gd.no (Qt.mv rfl) rfl ?_
 refine G.q Gd.no (Qt.add rfl rfl (by first | exact i64_id (by omega) (by omega) | exact rfl)) rfl ?_
 refine G.q Gd.no (Qt.asg rfl) rfl ?_
 refine G.nil (GK.then (GC.seq (GC.seq (GC.region ?_))))
 refine G.q Gd.no (Qt.mv rfl) rfl ?_
 refine G.q Gd.no (Qt.gtr rfl rfl) rfl ?_
 refine G.nil (GK.then ?_)
 refine GC.condb rfl (fun c0 => ?_) (fun c0 => ?_)
 ·try simp only [sB0, sB1, sB2, sB3, sB4, sB5, sB6, sB7, sB8] at c0
  refine GC.seq (GC.region ?_)
  refine G.q Gd.no (Qt.asg rfl) rfl ?_
  refine G.nil (GK.then (GC.ret (GK.thenr ?_)))
  rw [show RR = (D, 3) from by rw [← hRR]; exact if_pos (by rw [hnew]; exact c0)]
  refine GK.ret (rs := [.tmp 4]) rfl (.tmp rfl .nil) () ?_ ?_ (Tks.c (Tks.c (Tks.c (.nil _))))
  ·trivial
  ·rfl
 ·try simp only [sB0, sB1, sB2, sB3, sB4, sB5, sB6, sB7, sB8] at c0
  have hm0 := Int.emod_nonneg q (show R.S ≠ 0 by omega)
  have hm1 := Int.emod_lt_of_pos q (show 0 < R.S by omega)
  have hbd := Rl.base_bd fine rf hm0 hm1
  have hid := R.nextID_bd fine
  obtain ⟨at_, hat⟩ : ∃ at_, R.base D (q % R.S) = at_ := ⟨_, rfl⟩
  have hat2 : (R.first + q % R.S) * D.size = at_ := hat
  rw [hat] at hbd
  obtain ⟨tl, htl⟩ : ∃ tl, (if tail = 0 then q + 1 else tail) = tl := ⟨_, rfl⟩
  have htlx := htl
  have htl0 : 0 ≤ tl ∧ tl ≤ 4294967295 := by rw [← htl]; split <;> omega
  obtain ⟨id, hidx⟩ : ∃ id, R.nextID D = id := ⟨_, rfl⟩
  rw [hidx] at hid
  refine GC.skip (GK.then (GC.seq (GC.seq (GC.region ?_))))
  refine G.q Gd.no (Qt.mv rfl) rfl ?_
  refine G.q Gd.no (Qt.eqI rfl rfl) rfl ?_
  refine G.nil (GK.then ?_)
  refine GC.condb rfl (fun c1 => ?_) (fun c1 => ?_)
  ·try simp only [sB0, sB1, sB2, sB3, sB4, sB5, sB6, sB7, sB8] at c1
   rw [if_pos c1] at htl
   refine GC.region ?_
   refine G.q Gd.no (Qt.mv rfl) rfl ?_
   refine G.q Gd.no (Qt.asg (v := .int .i64 tl) (by rw [← htl]; rfl)) rfl ?_
   refine G.nil (GK.then (GC.seq (GC.region ?_)))
   refine G.q Gd.no (Qt.mv rfl) rfl ?_
   refine G.ld Gd.no (Ld.call cal59 rfl rfl (.nil _) (fun F' hF => rnext_ct F' _ _ _ _ _ _ R D (hF.fr hb) (hF.own In.o) fine rf _ (hF.own In.o) hcb) (fun _ _ => ?_))
   dsimp only [lCa, lNa]
   rw [hidx]
   refine G.q Gd.no (Qt.asg rfl) rfl ?_
   refine G.nil (GK.then (GC.seq (GC.region ?_)))
   refine G.q Gd.no (Qt.mv rfl) rfl ?_
   refine G.q Gd.no (Qt.sub rfl rfl (by first | exact i64_id (by omega) (by omega) | exact rfl)) rfl ?_
   rw [show q + 1 - 1 = q by omega]
   refine G.q Gd.no (Qt.mv rfl) rfl ?_
   refine G.q Gd.no (Qt.nilc rfl) rfl ?_
   refine G.q Gd.no (Qt.fa0 fl105_2 rfl) rfl ?_
   refine G.q Gd.no (Qt.ldc a3 rfl (by first | exact Rdc.o rfl | exact Rdc.o (nth_vIs (by omega)) | exact Rdc.o (nth_vI (by omega)) | exact Rdc.f hb rfl)) rfl ?_
   refine G.q Gd.no (Qt.rem rfl rfl (by omega) (by first | exact rem_nn (by omega) | exact rfl)) rfl ?_
   refine G.q Gd.no (Qt.asg rfl) rfl ?_
   refine G.nil (GK.then (GC.seq (GC.region ?_)))
   refine G.q Gd.no (Qt.mv rfl) rfl ?_
   refine G.q Gd.no (Qt.mv rfl) rfl ?_
   refine G.ld Gd.no (Ld.call cal64 rfl rfl (.nil _) (fun F' hF => rbase_ct F' _ _ _ _ _ _ R D (hF.fr hb) (hF.own In.o) fine rf _ hm0 hm1) (fun _ _ => ?_))
   dsimp only [lCa, lNa]
   rw [hat]
   refine G.q Gd.no (Qt.asg rfl) rfl ?_
   refine G.nil (GK.then (GC.seq (GC.seq ?_)))
   refine GC.draw mixed _ Held.all ?_
   refine GT 0 1 rfl (by kernel_rfl) rfl rfl Gd.no (Qt.mv rfl) Held.c ?_
   refine GT 1 3 rfl (by kernel_rfl) rfl rfl Gd.no (Qt.nilc rfl) Held.c ?_
   refine GT 2 7 rfl (by kernel_rfl) rfl rfl Gd.no (Qt.fa0 fl105_0 rfl) Held.c ?_
   refine GT 3 15 rfl (by kernel_rfl) rfl rfl Gd.no (Qt.ldc a56 rfl (by first | exact Rdc.o rfl | exact Rdc.o (nth_vIs (by omega)) | exact Rdc.o (nth_vI (by omega)) | exact Rdc.f hb rfl)) Held.c ?_
   refine GT 4 31 rfl (by kernel_rfl) rfl rfl Gd.no (Qt.nilc rfl) Held.c ?_
   refine GT 5 63 rfl (by kernel_rfl) rfl rfl Gd.no (Qt.fa0 fl102_1 rfl) Held.c ?_
   refine GT 6 127 rfl (by kernel_rfl) rfl rfl Gd.no (Qt.ldc a53 rfl (by first | exact Rdc.o rfl | exact Rdc.o (nth_vIs (by omega)) | exact Rdc.o (nth_vI (by omega)) | exact Rdc.f hb rfl)) Held.c ?_
   refine GT 7 255 rfl (by kernel_rfl) rfl rfl Gd.no (Qt.mv rfl) Held.c ?_
   refine GT 8 511 rfl (by kernel_rfl) rfl rfl Gd.no (Qt.mv rfl) Held.c ?_
   refine GT 9 1023 rfl (by kernel_rfl) rfl rfl Gd.no (Qt.mv rfl) Held.c ?_
   refine GT 10 2047 rfl (by kernel_rfl) rfl rfl Gd.no (Qt.nilc rfl) Held.c ?_
   refine GT 11 4095 rfl (by kernel_rfl) rfl rfl Gd.no (Qt.fa0 fl105_0 rfl) Held.c ?_
   refine GT 12 8191 rfl (by kernel_rfl) rfl rfl Gd.no (Qt.ldc a56 rfl (by first | exact Rdc.o rfl | exact Rdc.o (nth_vIs (by omega)) | exact Rdc.o (nth_vI (by omega)) | exact Rdc.f hb rfl)) Held.c ?_
   refine GT 13 16383 rfl (by kernel_rfl) rfl rfl Gd.no (Qt.nilc rfl) Held.c ?_
   refine GT 14 32767 rfl (by kernel_rfl) rfl rfl Gd.no (Qt.fa0 fl102_0 rfl) Held.c ?_
   refine GT 15 65535 rfl (by kernel_rfl) rfl rfl Gd.no (Qt.ldc a3 rfl (by first | exact Rdc.o rfl | exact Rdc.o (nth_vIs (by omega)) | exact Rdc.o (nth_vI (by omega)) | exact Rdc.f hb rfl)) Held.c ?_
   refine GT 16 131071 rfl (by kernel_rfl) rfl rfl Gd.no (Qt.add rfl rfl (by exact i64_id (by omega) (by omega))) Held.c ?_
   refine GT 17 262143 rfl (by kernel_rfl) rfl rfl Gd.no (Qt.sl Try.underlying53 z5 rfl rfl rfl (by omega) (by omega) (by omega) rfl rfl) Held.c ?_
   rw [slAt_some (by omega), Nat.mul_one, Nat.zero_add, show (at_ + D.size).toNat - at_.toNat = (secL D at_).length by rw [secL_len (R := R) fine hbd.1 hbd.2]; omega]
   refine GO 18 524287 (by kernel_rfl) rfl rfl Gd.no (Ld.call cal84 rfl rfl (.nil _) (fun F' hF => rblank_ct F' (some ⟨bb, at_.toNat, none⟩) (cb - at_.toNat) (secL D at_) (secL_vw (hF.own In.o) at_) (by rw [secL_len (R := R) fine hbd.1 hbd.2]; omega)) (fun _ _ => ?_))
   dsimp only [lCa, lNa]
   rw [show ((secL D at_).all fun x => decide (x = 255)) = blankL (secL D at_) from rfl]
   refine ⟨Held.c, ?_⟩
   refine GT 19 1048575 rfl (by kernel_rfl) rfl rfl Gd.no (Qt.not rfl) Held.c ?_
   refine GH.done (by kernel_rfl) ?_
   refine GK.then ?_
   refine GC.condb rfl (fun c2 => ?_) (fun c2 => ?_)
   ·try simp only [sB0, sB1, sB2, sB3, sB4, sB5, sB6, sB7, sB8] at c2
    have hE0 : openE D (R.first + q % R.S) = D.erase (R.first + q % R.S) := by unfold openE; rw [hat2, if_neg (by simpa using c2)]
    obtain ⟨E, e0, hE⟩ : ∃ E e0, openE D (R.first + q % R.S) = (E, e0) := ⟨_, _, rfl⟩
    obtain ⟨fE, lE⟩ := Dev.erase_fine fine (R.first + q % R.S)
    rw [← hE0, hE] at fE lE
    have oks := fine.ok
    have ok2s := fine.ok2
    have geos := fine.geo
    refine GC.seq ?_
    refine GC.draw mixed _ Held.none ?_
    refine GT 0 1 rfl (by kernel_rfl) rfl rfl Gd.no (Qt.mv rfl) Held.c ?_
    refine GT 1 3 rfl (by kernel_rfl) rfl rfl Gd.no (Qt.nilc rfl) Held.c ?_
    refine GT 2 7 rfl (by kernel_rfl) rfl rfl Gd.no (Qt.fa0 fl105_0 rfl) Held.c ?_
    refine GT 3 15 rfl (by kernel_rfl) rfl rfl Gd.no (Qt.ldc a56 rfl (by first | exact Rdc.o rfl | exact Rdc.o (nth_vIs (by omega)) | exact Rdc.o (nth_vI (by omega)) | exact Rdc.f hb rfl)) Held.c ?_
    refine GT 4 31 rfl (by kernel_rfl) rfl rfl Gd.no (Qt.mv rfl) Held.c ?_
    refine GT 5 63 rfl (by kernel_rfl) rfl rfl Gd.no (Qt.nilc rfl) Held.c ?_
    refine GT 6 127 rfl (by kernel_rfl) rfl rfl Gd.no (Qt.fa0 fl105_1 rfl) Held.c ?_
    refine GT 7 255 rfl (by kernel_rfl) rfl rfl Gd.no (Qt.ldc a3 rfl (by first | exact Rdc.o rfl | exact Rdc.o (nth_vIs (by omega)) | exact Rdc.o (nth_vI (by omega)) | exact Rdc.f hb rfl)) Held.c ?_
    refine GT 8 511 rfl (by kernel_rfl) rfl rfl Gd.no (Qt.mv rfl) Held.c ?_
    refine GT 9 1023 rfl (by kernel_rfl) rfl rfl Gd.no (Qt.add rfl rfl (by first | exact i64_id (by omega) (by omega) | exact rfl)) Held.c ?_
    refine GO 10 2047 (by kernel_rfl) rfl rfl Gd.no (Ld.call cal85 rfl rfl (Tks.c (Tks.c (Tks.c (.nil _)))) (fun F' hF => rerase_ct F' _ _ _ _ _ _ _ D oks ok2s geos _) (fun _ _ => ?_))
    dsimp only [lCa, lNa]
    rw [← hE0, hE]
    dsimp only
    refine ⟨Held.c, ?_⟩
    refine GT 11 4095 rfl (by kernel_rfl) rfl rfl Gd.no (Qt.asg rfl) Held.c ?_
    refine GH.done (by kernel_rfl) ?_
    refine GK.then (GC.seq (GC.region ?_))
    refine G.q Gd.no (Qt.mv rfl) rfl ?_
    refine G.q Gd.no (Qt.neI rfl rfl) rfl ?_
    refine G.nil (GK.then ?_)
    refine GC.condb rfl (fun c3 => ?_) (fun c3 => ?_)
    ·try simp only [sB0, sB1, sB2, sB3, sB4, sB5, sB6, sB7, sB8] at c3
     refine GC.seq (GC.region ?_)
     refine G.q Gd.no (Qt.mv rfl) rfl ?_
     refine G.q Gd.no (Qt.asg rfl) rfl ?_
     refine G.nil (GK.then (GC.ret (GK.thenr ?_)))
     rw [show RR = (E, e0) from by rw [← hRR]; exact ropen_e hnew c0 hE (by assumption)]
     refine GK.ret (rs := [.tmp 4]) rfl (.tmp rfl .nil) () ?_ ?_ (Tks.c (Tks.c (Tks.c (.nil _))))
     ·trivial
     ·rfl
    ·try simp only [sB0, sB1, sB2, sB3, sB4, sB5, sB6, sB7, sB8] at c3
     refine GC.skip (GK.then (GC.seq (GC.region ?_)))
     refine G.q Gd.no (Qt.mv rfl) rfl ?_
     refine G.q Gd.no (Qt.conv Try.underlying3 Try.underlying122 rfl (by first | exact u64_id (by omega) (by omega) | exact rfl)) rfl ?_
     refine G.ld Gd.no (Ld.call cal86 rfl rfl (.nil _) (fun F' hF => little_ct F' (q + 1) 4 (by omega) (by omega) (by omega) (by omega)) (fun ⟨qa, qas⟩ _ => ?_))
     dsimp only [lCa, lNa]
     refine G.q Gd.no (Qt.mv rfl) rfl ?_
     refine G.q Gd.no (Qt.conv Try.underlying3 Try.underlying122 rfl (by first | exact u64_id (by omega) (by omega) | exact rfl)) rfl ?_
     refine G.ld Gd.no (Ld.call cal86 rfl rfl (.nil _) (fun F' hF => little_ct F' tl 4 (by omega) (by omega) (by omega) (by omega)) (fun ⟨qb, qbs⟩ _ => ?_))
     dsimp only [lCa, lNa]
     refine G.ld Gd.no (Ld.appI (k := .u8) (ob := some qa) (xs := litL 4 (q + 1)) (sp := qas) (ys := litL 4 tl) Try.underlying53 z5 by5 ze5 rfl rfl rfl rfl (Vw.pre Rd.o) (by simp [litL_length]) (by intro e; cases e) (by simp only [List.length_append, litL_length]; omega) (by simp only [List.length_append, litL_length]; omega) (fun b' sp' => ?_))
     refine G.q Gd.no (Qt.asg rfl) rfl ?_
     refine G.nil (GK.then (GC.seq (GC.region ?_)))
     refine G.q Gd.no (Qt.mv rfl) rfl ?_
     refine G.q Gd.no (Qt.mv rfl) rfl ?_
     refine G.q Gd.no (Qt.conv Try.underlying3 Try.underlying122 rfl (by first | exact u64_id (by omega) (by omega) | exact rfl)) rfl ?_
     refine G.ld Gd.no (Ld.call cal86 rfl rfl (.nil _) (fun F' hF => little_ct F' id 2 (by omega) (by omega) (by omega) (by omega)) (fun ⟨qc, qcs⟩ _ => ?_))
     dsimp only [lCa, lNa]
     refine G.ld Gd.no (Ld.appI (k := .u8) (ob := some b') (xs := litL 4 (q + 1) ++ litL 4 tl) (ys := litL 2 id) Try.underlying53 z5 by5 ze5 rfl rfl rfl rfl (Vw.pre Rd.o) rfl (by intro e; cases e) (by simp only [List.length_append, litL_length]; omega) (by simp only [List.length_append, litL_length]; omega) (fun b' sp' => ?_))
     rw [hdL_eq (q + 1) tl id (by omega) (by omega)]
     refine G.q Gd.no (Qt.asg rfl) rfl ?_
     refine G.nil (GK.then (GC.seq (GC.seq (GC.region ?_))))
     refine G.q Gd.no (Qt.mv rfl) rfl ?_
     refine G.q Gd.no (Qt.nilc rfl) rfl ?_
     refine G.q Gd.no (Qt.fa0 fl105_0 rfl) rfl ?_
     refine G.q Gd.no (Qt.ldc a56 rfl (by first | exact Rdc.o rfl | exact Rdc.o (nth_vIs (by omega)) | exact Rdc.o (nth_vI (by omega)) | exact Rdc.f hb rfl)) rfl ?_
     refine G.q Gd.no (Qt.mv rfl) rfl ?_
     refine G.q Gd.no (Qt.mv rfl) rfl ?_
     refine G.ld Gd.no (Ld.call cal24 rfl rfl (Tks.c (Tks.c (.nil _))) (fun F' hF => rprogram_ct F' _ _ _ _ _ _ E fE.ok fE.ok2 at_ (some ⟨b', 0, none⟩) _ (hdL (q + 1) tl id) (VwF.ofPre (hF.own In.o)) (by simp only [hdL, List.length_append, List.length_cons, List.length_nil, litL_length]; omega)) (fun _ _ => ?_))
     dsimp only [lCa, lNa]
     obtain ⟨E2, e2, hP⟩ : ∃ E2 e2, Dev.program E at_ (hdL (q + 1) tl id) = (E2, e2) := ⟨_, _, rfl⟩
     obtain ⟨f2, l2⟩ := Dev.program_fine fE at_ (hdL (q + 1) tl id)
     have w2 := Dev.program_wear E at_ (hdL (q + 1) tl id)
     rw [hP] at f2 l2 w2
     have ok2E := f2.ok
     have ok22E := f2.ok2
     rw [hP]
     dsimp only
     rw [← w2]
     refine G.q Gd.no (Qt.asg rfl) rfl ?_
     refine G.nil (GK.then (GC.seq (GC.region ?_)))
     refine G.q Gd.no (Qt.mv rfl) rfl ?_
     refine G.q Gd.no (Qt.neI rfl rfl) rfl ?_
     refine G.nil (GK.then ?_)
     refine GC.condb rfl (fun c4 => ?_) (fun c4 => ?_)
     ·try simp only [sB0, sB1, sB2, sB3, sB4, sB5, sB6, sB7, sB8] at c4
      refine GC.seq (GC.region ?_)
      refine G.q Gd.no (Qt.mv rfl) rfl ?_
      refine G.q Gd.no (Qt.asg rfl) rfl ?_
      refine G.nil (GK.then (GC.ret (GK.thenr ?_)))
      rw [show RR = (E2, e2) from by rw [← hRR]; exact ropen_p hnew c0 hE (by first | assumption | rfl) (by rw [hat2, htlx, hidx]; exact hP) (by assumption)]
      refine GK.ret (rs := [.tmp 4]) rfl (.tmp rfl .nil) () ?_ ?_ (Tks.c (Tks.c (Tks.c (.nil _))))
      ·trivial
      ·rfl
     ·try simp only [sB0, sB1, sB2, sB3, sB4, sB5, sB6, sB7, sB8] at c4
      refine GC.skip (GK.then (GC.seq (GC.region ?_)))
      refine G.q Gd.no (Qt.mv rfl) rfl ?_
      refine G.q Gd.no (Qt.nilc rfl) rfl ?_
      refine G.q Gd.no (Qt.fa0 fl105_0 rfl) rfl ?_
      refine G.q Gd.no (Qt.ldc a56 rfl (by first | exact Rdc.o rfl | exact Rdc.o (nth_vIs (by omega)) | exact Rdc.o (nth_vI (by omega)) | exact Rdc.f hb rfl)) rfl ?_
      refine G.q Gd.no (Qt.mv rfl) rfl ?_
      refine G.q Gd.no (Qt.add rfl rfl (by first | exact i64_id (by omega) (by omega) | exact rfl)) rfl ?_
      refine G.ld Gd.no (Ld.bsl (xs := [.const (.int .u8 0)]) rfl Try.underlying53 z5 ze5 rfl rfl rfl rfl rfl (by simp [Value.oneCell']) (fun b99 => ?_))
      refine G.ld Gd.no (Ld.call cal24 rfl rfl (Tks.c (Tks.c (.nil _))) (fun F' hF => rprogram_ct F' _ _ _ _ _ _ E2 ok2E ok22E (at_ + 10) (some ⟨b99, 0, none⟩) _ [0] (VwF.ofAll (hF.own In.o)) (by simp)) (fun _ _ => ?_))
      dsimp only [lCa, lNa]
      obtain ⟨E3, e3, hQ⟩ : ∃ E3 e3, E2.program (at_ + 10) [0] = (E3, e3) := ⟨_, _, rfl⟩
      have w3 := Dev.program_wear E2 (at_ + 10) [0]
      rw [hQ] at w3
      rw [hQ]
      dsimp only
      rw [← w3]
      refine G.q Gd.no (Qt.asg rfl) rfl ?_
      refine G.nil (GK.then (GC.ret ?_))
      rw [show RR = (E3, e3) from by rw [← hRR]; exact ropen_q (E2 := E2) (e2 := e2) hnew c0 hE (by first | assumption | rfl) (by rw [hat2, htlx, hidx]; exact hP) (by assumption) (by rw [hat2]; exact hQ)]
      refine GK.ret (rs := [.tmp 4]) rfl (.tmp rfl .nil) () ?_ ?_ (Tks.c (Tks.c (Tks.c (.nil _))))
      ·trivial
      ·rfl
   ·try simp only [sB0, sB1, sB2, sB3, sB4, sB5, sB6, sB7, sB8] at c2
    obtain ⟨E, hED⟩ : ∃ E, D = E := ⟨D, rfl⟩
    have hE : openE D (R.first + q % R.S) = (E, 0) := by rw [← hED]; unfold openE; rw [hat2, if_pos (by simpa using c2)]
    have fE : E.Fine := hED ▸ fine
    rw [hED]
    refine GC.skip (GK.then (GC.seq (GC.region ?_)))
    refine G.q Gd.no (Qt.mv rfl) rfl ?_
    refine G.q Gd.no (Qt.conv Try.underlying3 Try.underlying122 rfl (by first | exact u64_id (by omega) (by omega) | exact rfl)) rfl ?_
    refine G.ld Gd.no (Ld.call cal86 rfl rfl (.nil _) (fun F' hF => little_ct F' (q + 1) 4 (by omega) (by omega) (by omega) (by omega)) (fun ⟨qa, qas⟩ _ => ?_))
    dsimp only [lCa, lNa]
    refine G.q Gd.no (Qt.mv rfl) rfl ?_
    refine G.q Gd.no (Qt.conv Try.underlying3 Try.underlying122 rfl (by first | exact u64_id (by omega) (by omega) | exact rfl)) rfl ?_
    refine G.ld Gd.no (Ld.call cal86 rfl rfl (.nil _) (fun F' hF => little_ct F' tl 4 (by omega) (by omega) (by omega) (by omega)) (fun ⟨qb, qbs⟩ _ => ?_))
    dsimp only [lCa, lNa]
    refine G.ld Gd.no (Ld.appI (k := .u8) (ob := some qa) (xs := litL 4 (q + 1)) (sp := qas) (ys := litL 4 tl) Try.underlying53 z5 by5 ze5 rfl rfl rfl rfl (Vw.pre Rd.o) (by simp [litL_length]) (by intro e; cases e) (by simp only [List.length_append, litL_length]; omega) (by simp only [List.length_append, litL_length]; omega) (fun b' sp' => ?_))
    refine G.q Gd.no (Qt.asg rfl) rfl ?_
    refine G.nil (GK.then (GC.seq (GC.region ?_)))
    refine G.q Gd.no (Qt.mv rfl) rfl ?_
    refine G.q Gd.no (Qt.mv rfl) rfl ?_
    refine G.q Gd.no (Qt.conv Try.underlying3 Try.underlying122 rfl (by first | exact u64_id (by omega) (by omega) | exact rfl)) rfl ?_
    refine G.ld Gd.no (Ld.call cal86 rfl rfl (.nil _) (fun F' hF => little_ct F' id 2 (by omega) (by omega) (by omega) (by omega)) (fun ⟨qc, qcs⟩ _ => ?_))
    dsimp only [lCa, lNa]
    refine G.ld Gd.no (Ld.appI (k := .u8) (ob := some b') (xs := litL 4 (q + 1) ++ litL 4 tl) (ys := litL 2 id) Try.underlying53 z5 by5 ze5 rfl rfl rfl rfl (Vw.pre Rd.o) rfl (by intro e; cases e) (by simp only [List.length_append, litL_length]; omega) (by simp only [List.length_append, litL_length]; omega) (fun b' sp' => ?_))
    rw [hdL_eq (q + 1) tl id (by omega) (by omega)]
    refine G.q Gd.no (Qt.asg rfl) rfl ?_
    refine G.nil (GK.then (GC.seq (GC.seq (GC.region ?_))))
    refine G.q Gd.no (Qt.mv rfl) rfl ?_
    refine G.q Gd.no (Qt.nilc rfl) rfl ?_
    refine G.q Gd.no (Qt.fa0 fl105_0 rfl) rfl ?_
    refine G.q Gd.no (Qt.ldc a56 rfl (by first | exact Rdc.o rfl | exact Rdc.o (nth_vIs (by omega)) | exact Rdc.o (nth_vI (by omega)) | exact Rdc.f hb rfl)) rfl ?_
    refine G.q Gd.no (Qt.mv rfl) rfl ?_
    refine G.q Gd.no (Qt.mv rfl) rfl ?_
    refine G.ld Gd.no (Ld.call cal24 rfl rfl (Tks.c (Tks.c (.nil _))) (fun F' hF => rprogram_ct F' _ _ _ _ _ _ E fE.ok fE.ok2 at_ (some ⟨b', 0, none⟩) _ (hdL (q + 1) tl id) (VwF.ofPre (hF.own In.o)) (by simp only [hdL, List.length_append, List.length_cons, List.length_nil, litL_length]; omega)) (fun _ _ => ?_))
    dsimp only [lCa, lNa]
    obtain ⟨E2, e2, hP⟩ : ∃ E2 e2, Dev.program E at_ (hdL (q + 1) tl id) = (E2, e2) := ⟨_, _, rfl⟩
    obtain ⟨f2, l2⟩ := Dev.program_fine fE at_ (hdL (q + 1) tl id)
    have w2 := Dev.program_wear E at_ (hdL (q + 1) tl id)
    rw [hP] at f2 l2 w2
    have ok2E := f2.ok
    have ok22E := f2.ok2
    rw [hP]
    dsimp only
    rw [← w2]
    refine G.q Gd.no (Qt.asg rfl) rfl ?_
    refine G.nil (GK.then (GC.seq (GC.region ?_)))
    refine G.q Gd.no (Qt.mv rfl) rfl ?_
    refine G.q Gd.no (Qt.neI rfl rfl) rfl ?_
    refine G.nil (GK.then ?_)
    refine GC.condb rfl (fun c5 => ?_) (fun c5 => ?_)
    ·try simp only [sB0, sB1, sB2, sB3, sB4, sB5, sB6, sB7, sB8] at c5
     refine GC.seq (GC.region ?_)
     refine G.q Gd.no (Qt.mv rfl) rfl ?_
     refine G.q Gd.no (Qt.asg rfl) rfl ?_
     refine G.nil (GK.then (GC.ret (GK.thenr ?_)))
     rw [show RR = (E2, e2) from by rw [← hRR]; exact ropen_p hnew c0 hE (by first | assumption | rfl) (by rw [hat2, htlx, hidx]; exact hP) (by assumption)]
     refine GK.ret (rs := [.tmp 4]) rfl (.tmp rfl .nil) () ?_ ?_ (Tks.c (Tks.c (Tks.c (.nil _))))
     ·trivial
     ·rfl
    ·try simp only [sB0, sB1, sB2, sB3, sB4, sB5, sB6, sB7, sB8] at c5
     refine GC.skip (GK.then (GC.seq (GC.region ?_)))
     refine G.q Gd.no (Qt.mv rfl) rfl ?_
     refine G.q Gd.no (Qt.nilc rfl) rfl ?_
     refine G.q Gd.no (Qt.fa0 fl105_0 rfl) rfl ?_
     refine G.q Gd.no (Qt.ldc a56 rfl (by first | exact Rdc.o rfl | exact Rdc.o (nth_vIs (by omega)) | exact Rdc.o (nth_vI (by omega)) | exact Rdc.f hb rfl)) rfl ?_
     refine G.q Gd.no (Qt.mv rfl) rfl ?_
     refine G.q Gd.no (Qt.add rfl rfl (by first | exact i64_id (by omega) (by omega) | exact rfl)) rfl ?_
     refine G.ld Gd.no (Ld.bsl (xs := [.const (.int .u8 0)]) rfl Try.underlying53 z5 ze5 rfl rfl rfl rfl rfl (by simp [Value.oneCell']) (fun b99 => ?_))
     refine G.ld Gd.no (Ld.call cal24 rfl rfl (Tks.c (Tks.c (.nil _))) (fun F' hF => rprogram_ct F' _ _ _ _ _ _ E2 ok2E ok22E (at_ + 10) (some ⟨b99, 0, none⟩) _ [0] (VwF.ofAll (hF.own In.o)) (by simp)) (fun _ _ => ?_))
     dsimp only [lCa, lNa]
     obtain ⟨E3, e3, hQ⟩ : ∃ E3 e3, E2.program (at_ + 10) [0] = (E3, e3) := ⟨_, _, rfl⟩
     have w3 := Dev.program_wear E2 (at_ + 10) [0]
     rw [hQ] at w3
     rw [hQ]
     dsimp only
     rw [← w3]
     refine G.q Gd.no (Qt.asg rfl) rfl ?_
     refine G.nil (GK.then (GC.ret ?_))
     rw [show RR = (E3, e3) from by rw [← hRR]; exact ropen_q (E2 := E2) (e2 := e2) hnew c0 hE (by first | assumption | rfl) (by rw [hat2, htlx, hidx]; exact hP) (by assumption) (by rw [hat2]; exact hQ)]
     refine GK.ret (rs := [.tmp 4]) rfl (.tmp rfl .nil) () ?_ ?_ (Tks.c (Tks.c (Tks.c (.nil _))))
     ·trivial
     ·rfl
  ·try simp only [sB0, sB1, sB2, sB3, sB4, sB5, sB6, sB7, sB8] at c1
   rw [if_neg c1] at htl
   rw [htl]
   refine GC.skip (GK.then (GC.seq (GC.region ?_)))
   refine G.q Gd.no (Qt.mv rfl) rfl ?_
   refine G.ld Gd.no (Ld.call cal59 rfl rfl (.nil _) (fun F' hF => rnext_ct F' _ _ _ _ _ _ R D (hF.fr hb) (hF.own In.o) fine rf _ (hF.own In.o) hcb) (fun _ _ => ?_))
   dsimp only [lCa, lNa]
   rw [hidx]
   refine G.q Gd.no (Qt.asg rfl) rfl ?_
   refine G.nil (GK.then (GC.seq (GC.region ?_)))
   refine G.q Gd.no (Qt.mv rfl) rfl ?_
   refine G.q Gd.no (Qt.sub rfl rfl (by first | exact i64_id (by omega) (by omega) | exact rfl)) rfl ?_
   rw [show q + 1 - 1 = q by omega]
   refine G.q Gd.no (Qt.mv rfl) rfl ?_
   refine G.q Gd.no (Qt.nilc rfl) rfl ?_
   refine G.q Gd.no (Qt.fa0 fl105_2 rfl) rfl ?_
   refine G.q Gd.no (Qt.ldc a3 rfl (by first | exact Rdc.o rfl | exact Rdc.o (nth_vIs (by omega)) | exact Rdc.o (nth_vI (by omega)) | exact Rdc.f hb rfl)) rfl ?_
   refine G.q Gd.no (Qt.rem rfl rfl (by omega) (by first | exact rem_nn (by omega) | exact rfl)) rfl ?_
   refine G.q Gd.no (Qt.asg rfl) rfl ?_
   refine G.nil (GK.then (GC.seq (GC.region ?_)))
   refine G.q Gd.no (Qt.mv rfl) rfl ?_
   refine G.q Gd.no (Qt.mv rfl) rfl ?_
   refine G.ld Gd.no (Ld.call cal64 rfl rfl (.nil _) (fun F' hF => rbase_ct F' _ _ _ _ _ _ R D (hF.fr hb) (hF.own In.o) fine rf _ hm0 hm1) (fun _ _ => ?_))
   dsimp only [lCa, lNa]
   rw [hat]
   refine G.q Gd.no (Qt.asg rfl) rfl ?_
   refine G.nil (GK.then (GC.seq (GC.seq ?_)))
   refine GC.draw mixed _ Held.all ?_
   refine GT 0 1 rfl (by kernel_rfl) rfl rfl Gd.no (Qt.mv rfl) Held.c ?_
   refine GT 1 3 rfl (by kernel_rfl) rfl rfl Gd.no (Qt.nilc rfl) Held.c ?_
   refine GT 2 7 rfl (by kernel_rfl) rfl rfl Gd.no (Qt.fa0 fl105_0 rfl) Held.c ?_
   refine GT 3 15 rfl (by kernel_rfl) rfl rfl Gd.no (Qt.ldc a56 rfl (by first | exact Rdc.o rfl | exact Rdc.o (nth_vIs (by omega)) | exact Rdc.o (nth_vI (by omega)) | exact Rdc.f hb rfl)) Held.c ?_
   refine GT 4 31 rfl (by kernel_rfl) rfl rfl Gd.no (Qt.nilc rfl) Held.c ?_
   refine GT 5 63 rfl (by kernel_rfl) rfl rfl Gd.no (Qt.fa0 fl102_1 rfl) Held.c ?_
   refine GT 6 127 rfl (by kernel_rfl) rfl rfl Gd.no (Qt.ldc a53 rfl (by first | exact Rdc.o rfl | exact Rdc.o (nth_vIs (by omega)) | exact Rdc.o (nth_vI (by omega)) | exact Rdc.f hb rfl)) Held.c ?_
   refine GT 7 255 rfl (by kernel_rfl) rfl rfl Gd.no (Qt.mv rfl) Held.c ?_
   refine GT 8 511 rfl (by kernel_rfl) rfl rfl Gd.no (Qt.mv rfl) Held.c ?_
   refine GT 9 1023 rfl (by kernel_rfl) rfl rfl Gd.no (Qt.mv rfl) Held.c ?_
   refine GT 10 2047 rfl (by kernel_rfl) rfl rfl Gd.no (Qt.nilc rfl) Held.c ?_
   refine GT 11 4095 rfl (by kernel_rfl) rfl rfl Gd.no (Qt.fa0 fl105_0 rfl) Held.c ?_
   refine GT 12 8191 rfl (by kernel_rfl) rfl rfl Gd.no (Qt.ldc a56 rfl (by first | exact Rdc.o rfl | exact Rdc.o (nth_vIs (by omega)) | exact Rdc.o (nth_vI (by omega)) | exact Rdc.f hb rfl)) Held.c ?_
   refine GT 13 16383 rfl (by kernel_rfl) rfl rfl Gd.no (Qt.nilc rfl) Held.c ?_
   refine GT 14 32767 rfl (by kernel_rfl) rfl rfl Gd.no (Qt.fa0 fl102_0 rfl) Held.c ?_
   refine GT 15 65535 rfl (by kernel_rfl) rfl rfl Gd.no (Qt.ldc a3 rfl (by first | exact Rdc.o rfl | exact Rdc.o (nth_vIs (by omega)) | exact Rdc.o (nth_vI (by omega)) | exact Rdc.f hb rfl)) Held.c ?_
   refine GT 16 131071 rfl (by kernel_rfl) rfl rfl Gd.no (Qt.add rfl rfl (by exact i64_id (by omega) (by omega))) Held.c ?_
   refine GT 17 262143 rfl (by kernel_rfl) rfl rfl Gd.no (Qt.sl Try.underlying53 z5 rfl rfl rfl (by omega) (by omega) (by omega) rfl rfl) Held.c ?_
   rw [slAt_some (by omega), Nat.mul_one, Nat.zero_add, show (at_ + D.size).toNat - at_.toNat = (secL D at_).length by rw [secL_len (R := R) fine hbd.1 hbd.2]; omega]
   refine GO 18 524287 (by kernel_rfl) rfl rfl Gd.no (Ld.call cal84 rfl rfl (.nil _) (fun F' hF => rblank_ct F' (some ⟨bb, at_.toNat, none⟩) (cb - at_.toNat) (secL D at_) (secL_vw (hF.own In.o) at_) (by rw [secL_len (R := R) fine hbd.1 hbd.2]; omega)) (fun _ _ => ?_))
   dsimp only [lCa, lNa]
   rw [show ((secL D at_).all fun x => decide (x = 255)) = blankL (secL D at_) from rfl]
   refine ⟨Held.c, ?_⟩
   refine GT 19 1048575 rfl (by kernel_rfl) rfl rfl Gd.no (Qt.not rfl) Held.c ?_
   refine GH.done (by kernel_rfl) ?_
   refine GK.then ?_
   refine GC.condb rfl (fun c6 => ?_) (fun c6 => ?_)
   ·try simp only [sB0, sB1, sB2, sB3, sB4, sB5, sB6, sB7, sB8] at c6
    have hE0 : openE D (R.first + q % R.S) = D.erase (R.first + q % R.S) := by unfold openE; rw [hat2, if_neg (by simpa using c6)]
    obtain ⟨E, e0, hE⟩ : ∃ E e0, openE D (R.first + q % R.S) = (E, e0) := ⟨_, _, rfl⟩
    obtain ⟨fE, lE⟩ := Dev.erase_fine fine (R.first + q % R.S)
    rw [← hE0, hE] at fE lE
    have oks := fine.ok
    have ok2s := fine.ok2
    have geos := fine.geo
    refine GC.seq ?_
    refine GC.draw mixed _ Held.none ?_
    refine GT 0 1 rfl (by kernel_rfl) rfl rfl Gd.no (Qt.mv rfl) Held.c ?_
    refine GT 1 3 rfl (by kernel_rfl) rfl rfl Gd.no (Qt.nilc rfl) Held.c ?_
    refine GT 2 7 rfl (by kernel_rfl) rfl rfl Gd.no (Qt.fa0 fl105_0 rfl) Held.c ?_
    refine GT 3 15 rfl (by kernel_rfl) rfl rfl Gd.no (Qt.ldc a56 rfl (by first | exact Rdc.o rfl | exact Rdc.o (nth_vIs (by omega)) | exact Rdc.o (nth_vI (by omega)) | exact Rdc.f hb rfl)) Held.c ?_
    refine GT 4 31 rfl (by kernel_rfl) rfl rfl Gd.no (Qt.mv rfl) Held.c ?_
    refine GT 5 63 rfl (by kernel_rfl) rfl rfl Gd.no (Qt.nilc rfl) Held.c ?_
    refine GT 6 127 rfl (by kernel_rfl) rfl rfl Gd.no (Qt.fa0 fl105_1 rfl) Held.c ?_
    refine GT 7 255 rfl (by kernel_rfl) rfl rfl Gd.no (Qt.ldc a3 rfl (by first | exact Rdc.o rfl | exact Rdc.o (nth_vIs (by omega)) | exact Rdc.o (nth_vI (by omega)) | exact Rdc.f hb rfl)) Held.c ?_
    refine GT 8 511 rfl (by kernel_rfl) rfl rfl Gd.no (Qt.mv rfl) Held.c ?_
    refine GT 9 1023 rfl (by kernel_rfl) rfl rfl Gd.no (Qt.add rfl rfl (by first | exact i64_id (by omega) (by omega) | exact rfl)) Held.c ?_
    refine GO 10 2047 (by kernel_rfl) rfl rfl Gd.no (Ld.call cal85 rfl rfl (Tks.c (Tks.c (Tks.c (.nil _)))) (fun F' hF => rerase_ct F' _ _ _ _ _ _ _ D oks ok2s geos _) (fun _ _ => ?_))
    dsimp only [lCa, lNa]
    rw [← hE0, hE]
    dsimp only
    refine ⟨Held.c, ?_⟩
    refine GT 11 4095 rfl (by kernel_rfl) rfl rfl Gd.no (Qt.asg rfl) Held.c ?_
    refine GH.done (by kernel_rfl) ?_
    refine GK.then (GC.seq (GC.region ?_))
    refine G.q Gd.no (Qt.mv rfl) rfl ?_
    refine G.q Gd.no (Qt.neI rfl rfl) rfl ?_
    refine G.nil (GK.then ?_)
    refine GC.condb rfl (fun c7 => ?_) (fun c7 => ?_)
    ·try simp only [sB0, sB1, sB2, sB3, sB4, sB5, sB6, sB7, sB8] at c7
     refine GC.seq (GC.region ?_)
     refine G.q Gd.no (Qt.mv rfl) rfl ?_
     refine G.q Gd.no (Qt.asg rfl) rfl ?_
     refine G.nil (GK.then (GC.ret (GK.thenr ?_)))
     rw [show RR = (E, e0) from by rw [← hRR]; exact ropen_e hnew c0 hE (by assumption)]
     refine GK.ret (rs := [.tmp 4]) rfl (.tmp rfl .nil) () ?_ ?_ (Tks.c (Tks.c (Tks.c (.nil _))))
     ·trivial
     ·rfl
    ·try simp only [sB0, sB1, sB2, sB3, sB4, sB5, sB6, sB7, sB8] at c7
     refine GC.skip (GK.then (GC.seq (GC.region ?_)))
     refine G.q Gd.no (Qt.mv rfl) rfl ?_
     refine G.q Gd.no (Qt.conv Try.underlying3 Try.underlying122 rfl (by first | exact u64_id (by omega) (by omega) | exact rfl)) rfl ?_
     refine G.ld Gd.no (Ld.call cal86 rfl rfl (.nil _) (fun F' hF => little_ct F' (q + 1) 4 (by omega) (by omega) (by omega) (by omega)) (fun ⟨qa, qas⟩ _ => ?_))
     dsimp only [lCa, lNa]
     refine G.q Gd.no (Qt.mv rfl) rfl ?_
     refine G.q Gd.no (Qt.conv Try.underlying3 Try.underlying122 rfl (by first | exact u64_id (by omega) (by omega) | exact rfl)) rfl ?_
     refine G.ld Gd.no (Ld.call cal86 rfl rfl (.nil _) (fun F' hF => little_ct F' tl 4 (by omega) (by omega) (by omega) (by omega)) (fun ⟨qb, qbs⟩ _ => ?_))
     dsimp only [lCa, lNa]
     refine G.ld Gd.no (Ld.appI (k := .u8) (ob := some qa) (xs := litL 4 (q + 1)) (sp := qas) (ys := litL 4 tl) Try.underlying53 z5 by5 ze5 rfl rfl rfl rfl (Vw.pre Rd.o) (by simp [litL_length]) (by intro e; cases e) (by simp only [List.length_append, litL_length]; omega) (by simp only [List.length_append, litL_length]; omega) (fun b' sp' => ?_))
     refine G.q Gd.no (Qt.asg rfl) rfl ?_
     refine G.nil (GK.then (GC.seq (GC.region ?_)))
     refine G.q Gd.no (Qt.mv rfl) rfl ?_
     refine G.q Gd.no (Qt.mv rfl) rfl ?_
     refine G.q Gd.no (Qt.conv Try.underlying3 Try.underlying122 rfl (by first | exact u64_id (by omega) (by omega) | exact rfl)) rfl ?_
     refine G.ld Gd.no (Ld.call cal86 rfl rfl (.nil _) (fun F' hF => little_ct F' id 2 (by omega) (by omega) (by omega) (by omega)) (fun ⟨qc, qcs⟩ _ => ?_))
     dsimp only [lCa, lNa]
     refine G.ld Gd.no (Ld.appI (k := .u8) (ob := some b') (xs := litL 4 (q + 1) ++ litL 4 tl) (ys := litL 2 id) Try.underlying53 z5 by5 ze5 rfl rfl rfl rfl (Vw.pre Rd.o) rfl (by intro e; cases e) (by simp only [List.length_append, litL_length]; omega) (by simp only [List.length_append, litL_length]; omega) (fun b' sp' => ?_))
     rw [hdL_eq (q + 1) tl id (by omega) (by omega)]
     refine G.q Gd.no (Qt.asg rfl) rfl ?_
     refine G.nil (GK.then (GC.seq (GC.seq (GC.region ?_))))
     refine G.q Gd.no (Qt.mv rfl) rfl ?_
     refine G.q Gd.no (Qt.nilc rfl) rfl ?_
     refine G.q Gd.no (Qt.fa0 fl105_0 rfl) rfl ?_
     refine G.q Gd.no (Qt.ldc a56 rfl (by first | exact Rdc.o rfl | exact Rdc.o (nth_vIs (by omega)) | exact Rdc.o (nth_vI (by omega)) | exact Rdc.f hb rfl)) rfl ?_
     refine G.q Gd.no (Qt.mv rfl) rfl ?_
     refine G.q Gd.no (Qt.mv rfl) rfl ?_
     refine G.ld Gd.no (Ld.call cal24 rfl rfl (Tks.c (Tks.c (.nil _))) (fun F' hF => rprogram_ct F' _ _ _ _ _ _ E fE.ok fE.ok2 at_ (some ⟨b', 0, none⟩) _ (hdL (q + 1) tl id) (VwF.ofPre (hF.own In.o)) (by simp only [hdL, List.length_append, List.length_cons, List.length_nil, litL_length]; omega)) (fun _ _ => ?_))
     dsimp only [lCa, lNa]
     obtain ⟨E2, e2, hP⟩ : ∃ E2 e2, Dev.program E at_ (hdL (q + 1) tl id) = (E2, e2) := ⟨_, _, rfl⟩
     obtain ⟨f2, l2⟩ := Dev.program_fine fE at_ (hdL (q + 1) tl id)
     have w2 := Dev.program_wear E at_ (hdL (q + 1) tl id)
     rw [hP] at f2 l2 w2
     have ok2E := f2.ok
     have ok22E := f2.ok2
     rw [hP]
     dsimp only
     rw [← w2]
     refine G.q Gd.no (Qt.asg rfl) rfl ?_
     refine G.nil (GK.then (GC.seq (GC.region ?_)))
     refine G.q Gd.no (Qt.mv rfl) rfl ?_
     refine G.q Gd.no (Qt.neI rfl rfl) rfl ?_
     refine G.nil (GK.then ?_)
     refine GC.condb rfl (fun c8 => ?_) (fun c8 => ?_)
     ·try simp only [sB0, sB1, sB2, sB3, sB4, sB5, sB6, sB7, sB8] at c8
      refine GC.seq (GC.region ?_)
      refine G.q Gd.no (Qt.mv rfl) rfl ?_
      refine G.q Gd.no (Qt.asg rfl) rfl ?_
      refine G.nil (GK.then (GC.ret (GK.thenr ?_)))
      rw [show RR = (E2, e2) from by rw [← hRR]; exact ropen_p hnew c0 hE (by first | assumption | rfl) (by rw [hat2, htlx, hidx]; exact hP) (by assumption)]
      refine GK.ret (rs := [.tmp 4]) rfl (.tmp rfl .nil) () ?_ ?_ (Tks.c (Tks.c (Tks.c (.nil _))))
      ·trivial
      ·rfl
     ·try simp only [sB0, sB1, sB2, sB3, sB4, sB5, sB6, sB7, sB8] at c8
      refine GC.skip (GK.then (GC.seq (GC.region ?_)))
      refine G.q Gd.no (Qt.mv rfl) rfl ?_
      refine G.q Gd.no (Qt.nilc rfl) rfl ?_
      refine G.q Gd.no (Qt.fa0 fl105_0 rfl) rfl ?_
      refine G.q Gd.no (Qt.ldc a56 rfl (by first | exact Rdc.o rfl | exact Rdc.o (nth_vIs (by omega)) | exact Rdc.o (nth_vI (by omega)) | exact Rdc.f hb rfl)) rfl ?_
      refine G.q Gd.no (Qt.mv rfl) rfl ?_
      refine G.q Gd.no (Qt.add rfl rfl (by first | exact i64_id (by omega) (by omega) | exact rfl)) rfl ?_
      refine G.ld Gd.no (Ld.bsl (xs := [.const (.int .u8 0)]) rfl Try.underlying53 z5 ze5 rfl rfl rfl rfl rfl (by simp [Value.oneCell']) (fun b99 => ?_))
      refine G.ld Gd.no (Ld.call cal24 rfl rfl (Tks.c (Tks.c (.nil _))) (fun F' hF => rprogram_ct F' _ _ _ _ _ _ E2 ok2E ok22E (at_ + 10) (some ⟨b99, 0, none⟩) _ [0] (VwF.ofAll (hF.own In.o)) (by simp)) (fun _ _ => ?_))
      dsimp only [lCa, lNa]
      obtain ⟨E3, e3, hQ⟩ : ∃ E3 e3, E2.program (at_ + 10) [0] = (E3, e3) := ⟨_, _, rfl⟩
      have w3 := Dev.program_wear E2 (at_ + 10) [0]
      rw [hQ] at w3
      rw [hQ]
      dsimp only
      rw [← w3]
      refine G.q Gd.no (Qt.asg rfl) rfl ?_
      refine G.nil (GK.then (GC.ret ?_))
      rw [show RR = (E3, e3) from by rw [← hRR]; exact ropen_q (E2 := E2) (e2 := e2) hnew c0 hE (by first | assumption | rfl) (by rw [hat2, htlx, hidx]; exact hP) (by assumption) (by rw [hat2]; exact hQ)]
      refine GK.ret (rs := [.tmp 4]) rfl (.tmp rfl .nil) () ?_ ?_ (Tks.c (Tks.c (Tks.c (.nil _))))
      ·trivial
      ·rfl
   ·try simp only [sB0, sB1, sB2, sB3, sB4, sB5, sB6, sB7, sB8] at c6
    obtain ⟨E, hED⟩ : ∃ E, D = E := ⟨D, rfl⟩
    have hE : openE D (R.first + q % R.S) = (E, 0) := by rw [← hED]; unfold openE; rw [hat2, if_pos (by simpa using c6)]
    have fE : E.Fine := hED ▸ fine
    rw [hED]
    refine GC.skip (GK.then (GC.seq (GC.region ?_)))
    refine G.q Gd.no (Qt.mv rfl) rfl ?_
    refine G.q Gd.no (Qt.conv Try.underlying3 Try.underlying122 rfl (by first | exact u64_id (by omega) (by omega) | exact rfl)) rfl ?_
    refine G.ld Gd.no (Ld.call cal86 rfl rfl (.nil _) (fun F' hF => little_ct F' (q + 1) 4 (by omega) (by omega) (by omega) (by omega)) (fun ⟨qa, qas⟩ _ => ?_))
    dsimp only [lCa, lNa]
    refine G.q Gd.no (Qt.mv rfl) rfl ?_
    refine G.q Gd.no (Qt.conv Try.underlying3 Try.underlying122 rfl (by first | exact u64_id (by omega) (by omega) | exact rfl)) rfl ?_
    refine G.ld Gd.no (Ld.call cal86 rfl rfl (.nil _) (fun F' hF => little_ct F' tl 4 (by omega) (by omega) (by omega) (by omega)) (fun ⟨qb, qbs⟩ _ => ?_))
    dsimp only [lCa, lNa]
    refine G.ld Gd.no (Ld.appI (k := .u8) (ob := some qa) (xs := litL 4 (q + 1)) (sp := qas) (ys := litL 4 tl) Try.underlying53 z5 by5 ze5 rfl rfl rfl rfl (Vw.pre Rd.o) (by simp [litL_length]) (by intro e; cases e) (by simp only [List.length_append, litL_length]; omega) (by simp only [List.length_append, litL_length]; omega) (fun b' sp' => ?_))
    refine G.q Gd.no (Qt.asg rfl) rfl ?_
    refine G.nil (GK.then (GC.seq (GC.region ?_)))
    refine G.q Gd.no (Qt.mv rfl) rfl ?_
    refine G.q Gd.no (Qt.mv rfl) rfl ?_
    refine G.q Gd.no (Qt.conv Try.underlying3 Try.underlying122 rfl (by first | exact u64_id (by omega) (by omega) | exact rfl)) rfl ?_
    refine G.ld Gd.no (Ld.call cal86 rfl rfl (.nil _) (fun F' hF => little_ct F' id 2 (by omega) (by omega) (by omega) (by omega)) (fun ⟨qc, qcs⟩ _ => ?_))
    dsimp only [lCa, lNa]
    refine G.ld Gd.no (Ld.appI (k := .u8) (ob := some b') (xs := litL 4 (q + 1) ++ litL 4 tl) (ys := litL 2 id) Try.underlying53 z5 by5 ze5 rfl rfl rfl rfl (Vw.pre Rd.o) rfl (by intro e; cases e) (by simp only [List.length_append, litL_length]; omega) (by simp only [List.length_append, litL_length]; omega) (fun b' sp' => ?_))
    rw [hdL_eq (q + 1) tl id (by omega) (by omega)]
    refine G.q Gd.no (Qt.asg rfl) rfl ?_
    refine G.nil (GK.then (GC.seq (GC.seq (GC.region ?_))))
    refine G.q Gd.no (Qt.mv rfl) rfl ?_
    refine G.q Gd.no (Qt.nilc rfl) rfl ?_
    refine G.q Gd.no (Qt.fa0 fl105_0 rfl) rfl ?_
    refine G.q Gd.no (Qt.ldc a56 rfl (by first | exact Rdc.o rfl | exact Rdc.o (nth_vIs (by omega)) | exact Rdc.o (nth_vI (by omega)) | exact Rdc.f hb rfl)) rfl ?_
    refine G.q Gd.no (Qt.mv rfl) rfl ?_
    refine G.q Gd.no (Qt.mv rfl) rfl ?_
    refine G.ld Gd.no (Ld.call cal24 rfl rfl (Tks.c (Tks.c (.nil _))) (fun F' hF => rprogram_ct F' _ _ _ _ _ _ E fE.ok fE.ok2 at_ (some ⟨b', 0, none⟩) _ (hdL (q + 1) tl id) (VwF.ofPre (hF.own In.o)) (by simp only [hdL, List.length_append, List.length_cons, List.length_nil, litL_length]; omega)) (fun _ _ => ?_))
    dsimp only [lCa, lNa]
    obtain ⟨E2, e2, hP⟩ : ∃ E2 e2, Dev.program E at_ (hdL (q + 1) tl id) = (E2, e2) := ⟨_, _, rfl⟩
    obtain ⟨f2, l2⟩ := Dev.program_fine fE at_ (hdL (q + 1) tl id)
    have w2 := Dev.program_wear E at_ (hdL (q + 1) tl id)
    rw [hP] at f2 l2 w2
    have ok2E := f2.ok
    have ok22E := f2.ok2
    rw [hP]
    dsimp only
    rw [← w2]
    refine G.q Gd.no (Qt.asg rfl) rfl ?_
    refine G.nil (GK.then (GC.seq (GC.region ?_)))
    refine G.q Gd.no (Qt.mv rfl) rfl ?_
    refine G.q Gd.no (Qt.neI rfl rfl) rfl ?_
    refine G.nil (GK.then ?_)
    refine GC.condb rfl (fun c9 => ?_) (fun c9 => ?_)
    ·try simp only [sB0, sB1, sB2, sB3, sB4, sB5, sB6, sB7, sB8] at c9
     refine GC.seq (GC.region ?_)
     refine G.q Gd.no (Qt.mv rfl) rfl ?_
     refine G.q Gd.no (Qt.asg rfl) rfl ?_
     refine G.nil (GK.then (GC.ret (GK.thenr ?_)))
     rw [show RR = (E2, e2) from by rw [← hRR]; exact ropen_p hnew c0 hE (by first | assumption | rfl) (by rw [hat2, htlx, hidx]; exact hP) (by assumption)]
     refine GK.ret (rs := [.tmp 4]) rfl (.tmp rfl .nil) () ?_ ?_ (Tks.c (Tks.c (Tks.c (.nil _))))
     ·trivial
     ·rfl
    ·try simp only [sB0, sB1, sB2, sB3, sB4, sB5, sB6, sB7, sB8] at c9
     refine GC.skip (GK.then (GC.seq (GC.region ?_)))
     refine G.q Gd.no (Qt.mv rfl) rfl ?_
     refine G.q Gd.no (Qt.nilc rfl) rfl ?_
     refine G.q Gd.no (Qt.fa0 fl105_0 rfl) rfl ?_
     refine G.q Gd.no (Qt.ldc a56 rfl (by first | exact Rdc.o rfl | exact Rdc.o (nth_vIs (by omega)) | exact Rdc.o (nth_vI (by omega)) | exact Rdc.f hb rfl)) rfl ?_
     refine G.q Gd.no (Qt.mv rfl) rfl ?_
     refine G.q Gd.no (Qt.add rfl rfl (by first | exact i64_id (by omega) (by omega) | exact rfl)) rfl ?_
     refine G.ld Gd.no (Ld.bsl (xs := [.const (.int .u8 0)]) rfl Try.underlying53 z5 ze5 rfl rfl rfl rfl rfl (by simp [Value.oneCell']) (fun b99 => ?_))
     refine G.ld Gd.no (Ld.call cal24 rfl rfl (Tks.c (Tks.c (.nil _))) (fun F' hF => rprogram_ct F' _ _ _ _ _ _ E2 ok2E ok22E (at_ + 10) (some ⟨b99, 0, none⟩) _ [0] (VwF.ofAll (hF.own In.o)) (by simp)) (fun _ _ => ?_))
     dsimp only [lCa, lNa]
     obtain ⟨E3, e3, hQ⟩ : ∃ E3 e3, E2.program (at_ + 10) [0] = (E3, e3) := ⟨_, _, rfl⟩
     have w3 := Dev.program_wear E2 (at_ + 10) [0]
     rw [hQ] at w3
     rw [hQ]
     dsimp only
     rw [← w3]
     refine G.q Gd.no (Qt.asg rfl) rfl ?_
     refine G.nil (GK.then (GC.ret ?_))
     rw [show RR = (E3, e3) from by rw [← hRR]; exact ropen_q (E2 := E2) (e2 := e2) hnew c0 hE (by first | assumption | rfl) (by rw [hat2, htlx, hidx]; exact hP) (by assumption) (by rw [hat2]; exact hQ)]
     refine GK.ret (rs := [.tmp 4]) rfl (.tmp rfl .nil) () ?_ ?_ (Tks.c (Tks.c (Tks.c (.nil _))))
     ·trivial
     ·rfl
theorem rget_ct (F : Fr) (b f bb bw cb cw : Nat) (R : Rl) (D : Dev) (hb : F.h b = some (Blk.cells (rlC R f) 105).toObj) (hf : F.h f = some (Blk.cells (devC D bb bw cb cw) 102).toObj) (fine : D.Fine) (rf : R.Fine D) (sb : List Value) (hbb : F.h bb = some (Blk.cells (vI .u8 D.bytes ++ sb) 5).toObj) (hcb : D.n ≤ cb) (hS : R.S ≤ 1048576) (id : Int) :
    Ct Try.prog F 66 [.pointer (some ⟨b, 0, none⟩), .int .u16 id] [] (S := Unit) (fun _ => True) (fun _ => .tuple #[.agg (evC (getL (R.records D) id).1).toArray, .int .u16 (getL (R.records D) id).2.1, .int .i64 (getL (R.records D) id).2.2]) (fun _ => []) := by
 have hrl := R.records_len fine hS
 obtain ⟨rs, hrs⟩ : ∃ rs, R.records D = rs := ⟨_, rfl⟩
 rw [hrs] at hrl ⊢
 refine Ct.of 48 [(0, _), (1, _)] Try.func66 rfl rfl rfl rfl ?_
 refine GC.seq (GC.region ?_)
 refine G.ld Gd.no (Ld.alloc rfl ze40 (by first | exact Cl.one rfl | exact Cl.agg) (fun b4 => ?_))
 refine G.q Gd.no (Qt.asg rfl) rfl ?_
 refine G.q Gd.no (Qt.asg rfl) rfl ?_
 refine G.nil (GK.then (GC.seq (GC.region ?_)))
 refine G.q Gd.no (Qt.mv rfl) rfl ?_
 refine G.ld Gd.no (Ld.call cal67 rfl rfl (.nil _) (fun F' hF => rrecords_ct F' _ _ _ _ _ _ R D (hF.fr hb) (hF.fr hf) fine rf _ (hF.fr hbb) hcb hS) (fun ⟨q1, q2, q3⟩ hq => ?_))
 dsimp only [lCa, lNa]
 rw [hrs] at hq ⊢
 refine G.q Gd.no (Qt.asg rfl) rfl ?_
 refine G.nil (GK.then (GC.seq (GC.seq (GC.region ?_))))
 refine G.q Gd.no (Qt.asg rfl) rfl ?_
 refine G.nil (GK.then (GC.block ?_))
 refine GC.loop (S := Nat) (fun x => x ≤ rs.length ∧ ∀ j y, j < x → rs[j]? = some y → hit id y = false) (fun x => rs.length - x)
  (fun x => [(0, .pointer (some ⟨b, 0, none⟩)), (1, .int .u16 id), (4, .pointer (some ⟨b4, 0, none⟩)), (7, .slice (oA q1) rs.length q2), (8, .int .i64 (x : Int))]) (fun x => [(some b4, .cells (evC Ev.zero) 40), (q1, .cells (rs.flatMap evC ++ q3) 40)]) 0 ?_ ?_ ?_ ?_
 ·exact ⟨by omega, fun j y h => by omega⟩
 ·exact ⟨rfl, rfl, rfl, rfl, rfl, trivial⟩
 ·exact ⟨_, (Tks.c (Tks.c (.nil _)))⟩
 intro x ⟨h1, hbf⟩
 refine GC.seq (GC.seq (GC.region ?_))
 refine G.q Gd.no (Qt.mv rfl) rfl ?_
 refine G.q Gd.no (Qt.mv rfl) rfl ?_
 refine G.q Gd.no (Qt.lenS (rt := 0) Try.underlying29 rfl) rfl ?_
 refine G.q Gd.no (Qt.lss rfl rfl) rfl ?_
 refine G.nil (GK.then ?_)
 refine GC.condb rfl (fun c0 => ?_) (fun c0 => ?_)
 ·try simp only [sB0, sB1, sB2, sB3, sB4, sB5, sB6, sB7, sB8] at c0
  obtain ⟨u, hu⟩ : ∃ u, rs[x]? = some u := ⟨_, List.getElem?_eq_getElem (by omega)⟩
  obtain ⟨b1, rfl⟩ : ∃ b1, q1 = some b1 := by
   cases q1 with
   | none => exact absurd (hq.2 rfl).1 (by intro e; rw [e] at hu; simp at hu)
   | some b1 => exact ⟨b1, rfl⟩
  refine GC.skip (GK.then (GC.seq (GC.block (GC.seq (GC.seq (GC.region ?_))))))
  refine G.q Gd.no (Qt.mv rfl) rfl ?_
  refine G.q Gd.no (Qt.neI rfl rfl) rfl ?_
  refine G.q Gd.no (Qt.mv rfl) rfl ?_
  apply G.andb (seg := [_, _, _, _, _, _, _])
  exact rfl
  exact rfl
  exact rfl
  exact Gd.no
  exact rfl
  exact rfl
  ·intro g3; try simp only [sB0, sB1, sB2, sB3, sB4, sB5, sB6, sB7, sB8] at g3
   refine G.q (Gd.yes rfl rfl) (Qt.mv rfl) rfl ?_
   refine G.q (Gd.yes rfl rfl) (Qt.mv rfl) rfl ?_
   refine G.q (Gd.yes rfl rfl) (Qt.iab0 Try.underlying29 z40 rfl rfl (by omega) (by omega) (show ((x : Nat) : Int).toNat = x from rfl)) rfl ?_
   refine G.q (Gd.yes rfl rfl) (Qt.fa fl40_0 rfl) rfl ?_
   refine G.q (Gd.yes rfl rfl) (Qt.ldc a36 rfl (Rdc.o (evs_id hu))) rfl ?_
   refine G.q (Gd.yes rfl rfl) (Qt.mv rfl) rfl ?_
   refine G.q (Gd.yes rfl rfl) (Qt.neI rfl rfl) rfl ?_
   refine G.nil (GK.seg (n := [_, _, _, _, _, _, _]) rfl rfl rfl (by first | exact Tks.all _ | exact Tks.skip (Tks.all _) | exact Tks.skip (Tks.skip (Tks.all _)) | exact Tks.skip (Tks.skip (Tks.skip (Tks.all _)))))
  refine G.nil (GK.then ?_)
  refine GC.condb rfl (fun c1 => ?_) (fun c1 => ?_)
  ·try simp only [sB0, sB1, sB2, sB3, sB4, sB5, sB6, sB7, sB8] at c1
   refine GC.exit (GK.thene (GK.blocke (GK.then (GC.region ?_))))
   refine G.q Gd.no (Qt.mv rfl) rfl ?_
   refine G.q Gd.no (Qt.add rfl rfl (by first | exact i64_id (by omega) (by omega) | exact rfl)) rfl ?_
   refine G.q Gd.no (Qt.asg rfl) rfl ?_
   refine G.nil ?_
   refine GK.head (x + 1) ?_ ?_ ?_ ?_
   ·omega
   ·exact ⟨by omega, next_no hu (by simp only [hit]; simpa using c1) hbf⟩
   ·exact ⟨rfl, rfl, rfl, rfl, rfl, trivial⟩
   ·exact ⟨_, (Tks.c (Tks.c (.nil _)))⟩
  ·try simp only [sB0, sB1, sB2, sB3, sB4, sB5, sB6, sB7, sB8] at c1
   have hgl := getL_yesE hu (by simp only [hit]; simpa [Decidable.or_iff_not_imp_left] using c1) hbf
   refine GC.skip (GK.then (GC.seq (GC.seq (GC.region ?_))))
   refine G.q Gd.no (Qt.mv rfl) rfl ?_
   refine G.q Gd.no (Qt.add rfl rfl (by first | exact i64_id (by omega) (by omega) | exact rfl)) rfl ?_
   refine G.q Gd.no (Qt.mv rfl) rfl ?_
   refine G.q Gd.no (Qt.lenS (rt := 0) Try.underlying29 rfl) rfl ?_
   refine G.q Gd.no (Qt.lss rfl rfl) rfl ?_
   refine G.nil (GK.then ?_)
   refine GC.condb rfl (fun c2 => ?_) (fun c2 => ?_)
   ·try simp only [sB0, sB1, sB2, sB3, sB4, sB5, sB6, sB7, sB8] at c2
    obtain ⟨u2, hu2⟩ : ∃ u2, rs[x + 1]? = some u2 := ⟨_, List.getElem?_eq_getElem (by omega)⟩
    refine GC.seq ?_
    refine GC.draw mixed _ (Held.tk (b := some b1) Held.none) ?_
    refine GT 0 1 rfl (by kernel_rfl) rfl rfl Gd.no (Qt.mv rfl) Held.c ?_
    refine GT 1 3 rfl (by kernel_rfl) rfl rfl Gd.no (Qt.mv rfl) Held.c ?_
    refine GT 2 7 rfl (by kernel_rfl) rfl rfl Gd.no (Qt.iab0 Try.underlying29 z40 rfl rfl (by omega) (by omega) (show ((x : Nat) : Int).toNat = x from rfl)) Held.c ?_
    refine GT 3 15 rfl (by kernel_rfl) rfl rfl Gd.no (Qt.ldV a40 rfl z40 (vs := evC u) (Vw.el evC_len Rd.o hu)) Held.c ?_
    refine GT 4 31 rfl (by kernel_rfl) rfl rfl Gd.no (Qt.mv rfl) Held.c ?_
    refine GT 5 63 rfl (by kernel_rfl) rfl rfl Gd.no (Qt.mv rfl) Held.c ?_
    refine GT 6 127 rfl (by kernel_rfl) rfl rfl Gd.no (Qt.add rfl rfl (by first | exact i64_id (by omega) (by omega) | exact rfl)) Held.c ?_
    refine GT 7 255 rfl (by kernel_rfl) rfl rfl Gd.no (Qt.iab0 Try.underlying29 z40 rfl rfl (by omega) (by omega) (show ((x : Int) + 1).toNat = x + 1 by omega)) Held.c ?_
    refine GT 8 511 rfl (by kernel_rfl) rfl rfl Gd.no (Qt.fa fl40_0 rfl) Held.c ?_
    refine GT 9 1023 rfl (by kernel_rfl) rfl rfl Gd.no (Qt.ldc a36 rfl (Rdc.o (evs_id hu2))) Held.c ?_
    refine GO 10 2047 (by kernel_rfl) rfl rfl Gd.no (Ld.stW (by exact z40) rfl rfl (evC_one _) (E := 40) (by rfl) UpdC.u ?_)
    refine ⟨Held.c, ?_⟩
    refine GT 11 4095 rfl (by kernel_rfl) rfl rfl Gd.no (Qt.asg rfl) Held.c ?_
    refine GT 12 8191 rfl (by kernel_rfl) rfl rfl Gd.no (Qt.asg rfl) Held.c ?_
    refine GH.done (by kernel_rfl) ?_
    refine GK.then (GC.ret (GK.thenr (GK.blockr (GK.thenr (GK.thenr (GK.blockr (GK.thenr ?_)))))))
    rw [hgl, hu2]
    refine GK.ret (rs := [.cell 4 40, .tmp 5, .tmp 6]) rfl (.cellW rfl a40 (by exact z40) Rd.o (.tmp rfl (.tmp rfl .nil))) () ?_ ?_ (.nil _)
    ·trivial
    ·rfl
   ·try simp only [sB0, sB1, sB2, sB3, sB4, sB5, sB6, sB7, sB8] at c2
    have hu2 : rs[x + 1]? = none := List.getElem?_eq_none (by omega)
    refine GC.skip (GK.then (GC.seq (GC.region ?_)))
    refine G.q Gd.no (Qt.mv rfl) rfl ?_
    refine G.q Gd.no (Qt.mv rfl) rfl ?_
    refine G.q Gd.no (Qt.iab0 Try.underlying29 z40 rfl rfl (by omega) (by omega) (show ((x : Nat) : Int).toNat = x from rfl)) rfl ?_
    refine G.q Gd.no (Qt.ldV a40 rfl z40 (vs := evC u) (Vw.el evC_len Rd.o hu)) rfl ?_
    refine G.ld Gd.no (Ld.stW (by exact z40) rfl rfl (evC_one _) (E := 40) (by rfl) UpdC.u ?_)
    refine G.q Gd.no (Qt.asg rfl) rfl ?_
    refine G.q Gd.no (Qt.asg rfl) rfl ?_
    refine G.nil (GK.then (GC.ret (GK.blockr (GK.thenr (GK.thenr (GK.blockr (GK.thenr ?_)))))))
    rw [hgl, hu2]
    refine GK.ret (rs := [.cell 4 40, .tmp 5, .tmp 6]) rfl (.cellW rfl a40 (by exact z40) Rd.o (.tmp rfl (.tmp rfl .nil))) () ?_ ?_ (.nil _)
    ·trivial
    ·rfl
 ·try simp only [sB0, sB1, sB2, sB3, sB4, sB5, sB6, sB7, sB8] at c0
  refine GC.exit (GK.thene (GK.thene (GK.blocke (GK.then (GC.seq (GC.region ?_))))))
  refine G.q Gd.no (Qt.buildS Try.underlying40 pl40 ze40 (.nil _)) rfl ?_
  refine G.ld Gd.no (Ld.stW (by exact z40) rfl rfl (by simp [Value.oneCell']) (E := 40) (by rfl) UpdC.u ?_)
  refine G.q Gd.no (Qt.asg rfl) rfl ?_
  refine G.q Gd.no (Qt.asg rfl) rfl ?_
  refine G.nil (GK.then (GC.ret ?_))
  rw [getL_noE (fun j y hj hy => hbf j y (by omega) hy)]
  refine GK.ret (rs := [.cell 4 40, .tmp 5, .tmp 6]) rfl (.cellW rfl a40 (by exact z40) Rd.o (.tmp rfl (.tmp rfl .nil))) () ?_ ?_ (.nil _)
  ·trivial
  ·rfl
theorem ropenNo_ct (F : Fr) (f bb bw cb cw : Nat) (D : Dev) (hf : F.h f = some (Blk.cells (devC D bb bw cb cw) 102).toObj) (ok : D.Ok) (first S : Int) (over : Bool) (hno : noRoom D.nw first S = true) :
    Ct Try.prog F 25 [.pointer (some ⟨f, 0, none⟩), .int .i64 first, .int .i64 S, .bool over] [] (S := Unit) (fun _ => True) (fun _ => .tuple #[.pointer none, .int .i64 2]) (fun _ => []) := by
 have hw := ok.wlen
 simp only [noRoom, decide_eq_true_eq] at hno
 refine Ct.of 46 [(0, _), (1, _), (2, _), (3, _)] Try.func25 rfl rfl rfl rfl ?_
 refine GC.seq (GC.region ?_)
 refine G.q Gd.no (Qt.asg rfl) rfl ?_
 refine G.q Gd.no (Qt.asg rfl) rfl ?_
 refine G.nil (GK.then (GC.seq (GC.seq (GC.region ?_))))
 refine G.q Gd.no (Qt.mv rfl) rfl ?_
 refine G.q Gd.no (Qt.lss rfl rfl) rfl ?_
 refine G.q Gd.no (Qt.mv rfl) rfl ?_
 apply G.orb (seg := [_, _, _, _, _, _, _])
 exact rfl
 exact rfl
 exact rfl
 exact Gd.no
 exact rfl
 exact rfl
 ·intro g3; try simp only [sB0, sB1, sB2, sB3, sB4, sB5, sB6, sB7, sB8] at g3
  refine G.q (Gd.yes rfl rfl) (Qt.mv rfl) rfl ?_
  refine G.q (Gd.yes rfl rfl) (Qt.mv rfl) rfl ?_
  refine G.q (Gd.yes rfl rfl) (Qt.nilc rfl) rfl ?_
  refine G.q (Gd.yes rfl rfl) (Qt.fa0 fl102_2 rfl) rfl ?_
  refine G.q (Gd.yes rfl rfl) (Qt.ldc a22 rfl (by first | exact Rdc.o rfl | exact Rdc.o (nth_vIs (by omega)) | exact Rdc.o (nth_vI (by omega)) | exact Rdc.f hf rfl)) rfl ?_
  refine G.q (Gd.yes rfl rfl) (Qt.lenS (rt := 0) Try.underlying22 rfl) rfl ?_
  refine G.q (Gd.yes rfl rfl) (Qt.gtr rfl rfl) rfl ?_
  refine G.nil (GK.seg (n := [_, _, _, _, _, _, _]) rfl rfl rfl (by first | exact Tks.all _ | exact Tks.skip (Tks.all _) | exact Tks.skip (Tks.skip (Tks.all _)) | exact Tks.skip (Tks.skip (Tks.skip (Tks.all _)))))
 refine G.q Gd.no (Qt.mv rfl) rfl ?_
 apply G.orb (seg := [_, _])
 exact rfl
 exact rfl
 exact rfl
 exact Gd.no
 exact rfl
 exact rfl
 ·intro g12; try simp only [sB0, sB1, sB2, sB3, sB4, sB5, sB6, sB7, sB8] at g12
  refine G.q (Gd.yes rfl rfl) (Qt.mv rfl) rfl ?_
  refine G.q (Gd.yes rfl rfl) (Qt.lss rfl rfl) rfl ?_
  refine G.nil (GK.seg (n := [_, _]) rfl rfl rfl (by first | exact Tks.all _ | exact Tks.skip (Tks.all _) | exact Tks.skip (Tks.skip (Tks.all _)) | exact Tks.skip (Tks.skip (Tks.skip (Tks.all _)))))
 refine G.q Gd.no (Qt.mv rfl) rfl ?_
 apply G.orb (seg := [_, _, _, _, _, _, _, _, _])
 exact rfl
 exact rfl
 exact rfl
 exact Gd.no
 exact rfl
 exact rfl
 ·intro g16; try simp only [sB0, sB1, sB2, sB3, sB4, sB5, sB6, sB7, sB8] at g16
  refine G.q (Gd.yes rfl rfl) (Qt.mv rfl) rfl ?_
  refine G.q (Gd.yes rfl rfl) (Qt.mv rfl) rfl ?_
  refine G.q (Gd.yes rfl rfl) (Qt.nilc rfl) rfl ?_
  refine G.q (Gd.yes rfl rfl) (Qt.fa0 fl102_2 rfl) rfl ?_
  refine G.q (Gd.yes rfl rfl) (Qt.ldc a22 rfl (by first | exact Rdc.o rfl | exact Rdc.o (nth_vIs (by omega)) | exact Rdc.o (nth_vI (by omega)) | exact Rdc.f hf rfl)) rfl ?_
  refine G.q (Gd.yes rfl rfl) (Qt.lenS (rt := 0) Try.underlying22 rfl) rfl ?_
  refine G.q (Gd.yes rfl rfl) (Qt.mv rfl) rfl ?_
  refine G.q (Gd.yes rfl rfl) (Qt.sub rfl rfl (by first | exact i64_id (by omega) (by omega) | exact rfl)) rfl ?_
  refine G.q (Gd.yes rfl rfl) (Qt.gtr rfl rfl) rfl ?_
  refine G.nil (GK.seg (n := [_, _, _, _, _, _, _, _, _]) rfl rfl rfl (by first | exact Tks.all _ | exact Tks.skip (Tks.all _) | exact Tks.skip (Tks.skip (Tks.all _)) | exact Tks.skip (Tks.skip (Tks.skip (Tks.all _)))))
 refine G.nil (GK.then ?_)
 refine GC.condb rfl (fun c0 => ?_) (fun c0 => ?_)
 ·try simp only [sB0, sB1, sB2, sB3, sB4, sB5, sB6, sB7, sB8] at c0
  refine GC.seq (GC.region ?_)
  refine G.q Gd.no (Qt.asg rfl) rfl ?_
  refine G.q Gd.no (Qt.asg rfl) rfl ?_
  refine G.nil (GK.then (GC.ret (GK.thenr ?_)))
  refine GK.ret (rs := [.tmp 8, .tmp 9]) rfl (.tmp rfl (.tmp rfl .nil)) () ?_ ?_ (.nil _)
  ·trivial
  ·rfl
 ·try simp only [sB0, sB1, sB2, sB3, sB4, sB5, sB6, sB7, sB8] at c0
  omega
theorem ropenUp_ct (F : Fr) (f bb bw cb cw : Nat) (D : Dev) (hf : F.h f = some (Blk.cells (devC D bb bw cb cw) 102).toObj) (ok : D.Ok) (first S : Int) (over : Bool) (hno : noRoom D.nw first S = false) (hd : D.down = false) :
    Ct Try.prog F 25 [.pointer (some ⟨f, 0, none⟩), .int .i64 first, .int .i64 S, .bool over] [] (S := Nat) (fun _ => True) (fun x => .tuple #[.pointer (some ⟨x, 0, none⟩), .int .i64 0]) (fun x => [(some x, .cells (rlC (Rl.open0 first S over) f) 105)]) := by
 have hw := ok.wlen
 simp only [noRoom, decide_eq_false_iff_not] at hno
 refine Ct.of 46 [(0, _), (1, _), (2, _), (3, _)] Try.func25 rfl rfl rfl rfl ?_
 refine GC.seq (GC.region ?_)
 refine G.q Gd.no (Qt.asg rfl) rfl ?_
 refine G.q Gd.no (Qt.asg rfl) rfl ?_
 refine G.nil (GK.then (GC.seq (GC.seq (GC.region ?_))))
 refine G.q Gd.no (Qt.mv rfl) rfl ?_
 refine G.q Gd.no (Qt.lss rfl rfl) rfl ?_
 refine G.q Gd.no (Qt.mv rfl) rfl ?_
 apply G.orb (seg := [_, _, _, _, _, _, _])
 exact rfl
 exact rfl
 exact rfl
 exact Gd.no
 exact rfl
 exact rfl
 ·intro g3; try simp only [sB0, sB1, sB2, sB3, sB4, sB5, sB6, sB7, sB8] at g3
  refine G.q (Gd.yes rfl rfl) (Qt.mv rfl) rfl ?_
  refine G.q (Gd.yes rfl rfl) (Qt.mv rfl) rfl ?_
  refine G.q (Gd.yes rfl rfl) (Qt.nilc rfl) rfl ?_
  refine G.q (Gd.yes rfl rfl) (Qt.fa0 fl102_2 rfl) rfl ?_
  refine G.q (Gd.yes rfl rfl) (Qt.ldc a22 rfl (by first | exact Rdc.o rfl | exact Rdc.o (nth_vIs (by omega)) | exact Rdc.o (nth_vI (by omega)) | exact Rdc.f hf rfl)) rfl ?_
  refine G.q (Gd.yes rfl rfl) (Qt.lenS (rt := 0) Try.underlying22 rfl) rfl ?_
  refine G.q (Gd.yes rfl rfl) (Qt.gtr rfl rfl) rfl ?_
  refine G.nil (GK.seg (n := [_, _, _, _, _, _, _]) rfl rfl rfl (by first | exact Tks.all _ | exact Tks.skip (Tks.all _) | exact Tks.skip (Tks.skip (Tks.all _)) | exact Tks.skip (Tks.skip (Tks.skip (Tks.all _)))))
 refine G.q Gd.no (Qt.mv rfl) rfl ?_
 apply G.orb (seg := [_, _])
 exact rfl
 exact rfl
 exact rfl
 exact Gd.no
 exact rfl
 exact rfl
 ·intro g12; try simp only [sB0, sB1, sB2, sB3, sB4, sB5, sB6, sB7, sB8] at g12
  refine G.q (Gd.yes rfl rfl) (Qt.mv rfl) rfl ?_
  refine G.q (Gd.yes rfl rfl) (Qt.lss rfl rfl) rfl ?_
  refine G.nil (GK.seg (n := [_, _]) rfl rfl rfl (by first | exact Tks.all _ | exact Tks.skip (Tks.all _) | exact Tks.skip (Tks.skip (Tks.all _)) | exact Tks.skip (Tks.skip (Tks.skip (Tks.all _)))))
 refine G.q Gd.no (Qt.mv rfl) rfl ?_
 apply G.orb (seg := [_, _, _, _, _, _, _, _, _])
 exact rfl
 exact rfl
 exact rfl
 exact Gd.no
 exact rfl
 exact rfl
 ·intro g16; try simp only [sB0, sB1, sB2, sB3, sB4, sB5, sB6, sB7, sB8] at g16
  refine G.q (Gd.yes rfl rfl) (Qt.mv rfl) rfl ?_
  refine G.q (Gd.yes rfl rfl) (Qt.mv rfl) rfl ?_
  refine G.q (Gd.yes rfl rfl) (Qt.nilc rfl) rfl ?_
  refine G.q (Gd.yes rfl rfl) (Qt.fa0 fl102_2 rfl) rfl ?_
  refine G.q (Gd.yes rfl rfl) (Qt.ldc a22 rfl (by first | exact Rdc.o rfl | exact Rdc.o (nth_vIs (by omega)) | exact Rdc.o (nth_vI (by omega)) | exact Rdc.f hf rfl)) rfl ?_
  refine G.q (Gd.yes rfl rfl) (Qt.lenS (rt := 0) Try.underlying22 rfl) rfl ?_
  refine G.q (Gd.yes rfl rfl) (Qt.mv rfl) rfl ?_
  refine G.q (Gd.yes rfl rfl) (Qt.sub rfl rfl (by first | exact i64_id (by omega) (by omega) | exact rfl)) rfl ?_
  refine G.q (Gd.yes rfl rfl) (Qt.gtr rfl rfl) rfl ?_
  refine G.nil (GK.seg (n := [_, _, _, _, _, _, _, _, _]) rfl rfl rfl (by first | exact Tks.all _ | exact Tks.skip (Tks.all _) | exact Tks.skip (Tks.skip (Tks.all _)) | exact Tks.skip (Tks.skip (Tks.skip (Tks.all _)))))
 refine G.nil (GK.then ?_)
 refine GC.condb rfl (fun c0 => ?_) (fun c0 => ?_)
 ·try simp only [sB0, sB1, sB2, sB3, sB4, sB5, sB6, sB7, sB8] at c0
  omega
 ·try simp only [sB0, sB1, sB2, sB3, sB4, sB5, sB6, sB7, sB8] at c0
  refine GC.skip (GK.then (GC.seq (GC.seq (GC.region ?_))))
  refine G.q Gd.no (Qt.mv rfl) rfl ?_
  refine G.q Gd.no (Qt.nilc rfl) rfl ?_
  refine G.q Gd.no (Qt.fa0 fl102_6 rfl) rfl ?_
  refine G.q Gd.no (Qt.ldc a4 rfl (by first | exact Rdc.o rfl | exact Rdc.o (nth_vIs (by omega)) | exact Rdc.o (nth_vI (by omega)) | exact Rdc.f hf rfl)) rfl ?_
  refine G.nil (GK.then ?_)
  refine GC.condb rfl (fun c1 => ?_) (fun c1 => ?_)
  ·try simp only [sB0, sB1, sB2, sB3, sB4, sB5, sB6, sB7, sB8] at c1
   exact absurd hd (by simp [c1])
  ·try simp only [sB0, sB1, sB2, sB3, sB4, sB5, sB6, sB7, sB8] at c1
   refine GC.skip (GK.then (GC.seq (GC.region ?_)))
   refine G.q Gd.no (Qt.mv rfl) rfl ?_
   refine G.q Gd.no (Qt.mv rfl) rfl ?_
   refine G.q Gd.no (Qt.mv rfl) rfl ?_
   refine G.q Gd.no (Qt.mv rfl) rfl ?_
   refine G.q Gd.no (Qt.buildS Try.underlying105 pl105 ze105 (.cons rfl rfl (by first | exact Cl.one rfl | exact Cl.agg) rfl (SetM.cons SetAt.k0 (.nil _ _)) (.cons rfl rfl (by first | exact Cl.one rfl | exact Cl.agg) rfl (SetM.cons SetAt.k1 (.nil _ _)) (.cons rfl rfl (by first | exact Cl.one rfl | exact Cl.agg) rfl (SetM.cons SetAt.k2 (.nil _ _)) (.cons rfl rfl (by first | exact Cl.one rfl | exact Cl.agg) rfl (SetM.cons SetAt.k3 (.nil _ _)) (.nil _)))))) rfl ?_
   refine G.ld Gd.no (Ld.box rfl rfl (by first | exact Cl.one rfl | exact Cl.agg) (fun b45 => ?_))
   refine G.q Gd.no (Qt.asg rfl) rfl ?_
   refine G.q Gd.no (Qt.asg rfl) rfl ?_
   refine G.nil (GK.then (GC.ret ?_))
   refine GK.ret (rs := [.tmp 8, .tmp 9]) rfl (.tmp rfl (.tmp rfl .nil)) b45 ?_ ?_ (Tks.c (.nil _))
   ·trivial
   ·rfl
end Go.Proofs.Ytbeiciinppmekaa
