/-
  baseboardlaw09.same and sameDevice return true where two logs agree and two devices are alike; each contract's conditions are its premises.
-/
import Derived.Test.YtbeiciinppmekaaTb
import Derived.Test.YtbeiciinppmekaaLawa
import Derived.Test.YtbeiciinppmekaaProg
namespace Go.Proofs.Ytbeiciinppmekaa
open Go Go.Sx Go.Proofs
set_option maxRecDepth 100000
set_option linter.unusedSimpArgs false
set_option linter.unusedVariables false
theorem VwF.oA {F : Fr} {ob : Option Nat} {cs : List Value} (h : ∀ b, ob = some b → VwF F (some ⟨b, 0, none⟩) cs) (hn : ob = none → cs = []) : VwF F (Go.Sx.oA ob) cs := by
  cases ob with
  | none => rw [hn rfl]; exact Go.Sx.VwF.nil
  | some b => exact h b rfl
theorem recs_len_bd {Y : Lg} {R : Rl} {D : Dev} (a : Agree Y R D) (hS : R.S ≤ 255) : Y.recs.length ≤ 16777216 := by
  have hq := R.newest_bd D
  have e : Y.recs.length = (R.records D).length := by rw [← a.events]; simp [Lg.events]
  rw [e]
  unfold Rl.records
  rw [if_neg (by simp [a.re])]
  split
  · have h1 := R.recsN_len a.fine (R.newest D).2 ((R.newest D).1 + 1 - (R.newest D).2).toNat
    have h2 : ((R.newest D).1 + 1 - (R.newest D).2).toNat ≤ 255 := by omega
    have h3 : ((R.newest D).1 + 1 - (R.newest D).2).toNat * 65536 ≤ 255 * 65536 := Nat.mul_le_mul_right _ h2
    omega
  · simp
theorem sdDown_ct (F : Fr) (db bb bw cb cw f fb fw gb gw : Nat) (sb sw tb tw : List Value) (D : Dev) (hdb : F.h db = some (Blk.cells (devC D bb bw cb cw) 81).toObj) (hbb : F.h bb = some (Blk.cells (vI .u8 D.bytes ++ sb) 5).toObj) (hbw : F.h bw = some (Blk.cells (vI .i64 D.wear ++ sw) 3).toObj) (hf : F.h f = some (Blk.cells (devC D fb fw gb gw) 102).toObj) (hfb : F.h fb = some (Blk.cells (vI .u8 D.bytes ++ tb) 5).toObj) (hfw : F.h fw = some (Blk.cells (vI .i64 D.wear ++ tw) 3).toObj) (fine : D.Fine) (hcb : D.n ≤ cb) (hgb : D.n ≤ gb) (hd : D.down = true) :
    Ct Try.prog F 28 [.pointer (some ⟨db, 0, none⟩), .pointer (some ⟨f, 0, none⟩)] [] (S := Unit) (fun _ => True) (fun _ => .bool true) (fun _ => []) := by
 have hw := fine.ok.hw
 have hbl := fine.ok.hn
 have hwl := fine.ok.wlen
 have hln := fine.ok.len
 have z0 := fine.geo.size0
 refine Ct.of 81 [(0, _), (1, _)] Try.func28 rfl rfl rfl rfl ?_
 refine GC.seq (GC.region ?_)
 refine G.q Gd.no (Qt.asg rfl) rfl ?_
 refine G.nil (GK.then (GC.seq (GC.region ?_)))
 refine G.q Gd.no (Qt.mv rfl) rfl ?_
 refine G.ld Gd.no (Ld.call cal68 rfl rfl (.nil _) (fun F' hF => wear_ct F' _ _ _ _ _ _ _ (hF.fr hdb) (hF.fr hbw) fine.ok) (fun ⟨qw, sw2⟩ _ => ?_))
 dsimp only [lCa, lNa]
 refine G.q Gd.no (Qt.asg rfl) rfl ?_
 refine G.nil (GK.then (GC.seq (GC.seq ?_)))
 refine GC.draw mixed _ Held.all ?_
 refine GT 0 1 rfl (by kernel_rfl) rfl rfl Gd.no (Qt.mv rfl) Held.c ?_
 refine GT 2 5 rfl (by kernel_rfl) rfl rfl Gd.no (Qt.mv rfl) Held.c ?_
 refine GT 3 13 rfl (by kernel_rfl) rfl rfl Gd.no (Qt.nilc rfl) Held.c ?_
 refine GT 4 29 rfl (by kernel_rfl) rfl rfl Gd.no (Qt.fa0 fl102_6 rfl) Held.c ?_
 refine GT 5 61 rfl (by kernel_rfl) rfl rfl Gd.no (Qt.ldc a4 rfl (by first | exact Rdc.o rfl | exact Rdc.o (nth_vIs (by omega)) | exact Rdc.o (nth_vI (by omega)) | exact Rdc.f hdb rfl | exact Rdc.f hf rfl | exact Rdc.f hfw (nth_vIs (by omega)))) Held.c ?_
 refine GO 1 63 (by kernel_rfl) rfl rfl Gd.no (Ld.call cal69 rfl rfl (.nil _) (fun F' hF => down_ct F' _ _ _ _ _ _ (hF.fr hdb)) (fun _ _ => ?_))
 dsimp only [lCa, lNa]
 refine ⟨Held.c, ?_⟩
 refine GT 6 127 rfl (by kernel_rfl) rfl rfl Gd.no (Qt.neB Try.underlying4 rfl rfl) Held.c ?_
 rw [neB_self]
 refine GT 7 255 rfl (by kernel_rfl) rfl rfl Gd.no (Qt.mv rfl) Held.c ?_
 refine GT 8 511 rfl (by kernel_rfl) rfl rfl (Gd.yes rfl rfl) (Qt.mv rfl) Held.c ?_
 refine GT 10 1535 rfl (by kernel_rfl) rfl rfl (Gd.yes rfl rfl) (Qt.mv rfl) Held.c ?_
 refine GT 11 3583 rfl (by kernel_rfl) rfl rfl (Gd.yes rfl rfl) (Qt.nilc rfl) Held.c ?_
 refine GT 12 7679 rfl (by kernel_rfl) rfl rfl (Gd.yes rfl rfl) (Qt.fa0 fl102_3 rfl) Held.c ?_
 refine GT 13 15871 rfl (by kernel_rfl) rfl rfl (Gd.yes rfl rfl) (Qt.ldc a3 rfl (by first | exact Rdc.o rfl | exact Rdc.o (nth_vIs (by omega)) | exact Rdc.o (nth_vI (by omega)) | exact Rdc.f hdb rfl | exact Rdc.f hf rfl | exact Rdc.f hfw (nth_vIs (by omega)))) Held.c ?_
 refine GO 9 16383 (by kernel_rfl) rfl rfl (Gd.yes rfl rfl) (Ld.call cal70 rfl rfl (.nil _) (fun F' hF => steps_ct F' _ _ _ _ _ _ (hF.fr hdb)) (fun _ _ => ?_))
 dsimp only [lCa, lNa]
 refine ⟨Held.c, ?_⟩
 refine GT 14 32767 rfl (by kernel_rfl) rfl rfl (Gd.yes rfl rfl) (Qt.neI rfl rfl) Held.c ?_
 rw [ne_self]
 refine GT 15 65535 rfl (by kernel_rfl) rfl rfl Gd.no (Qt.pickf rfl rfl) Held.c ?_
 refine GT 16 131071 rfl (by kernel_rfl) rfl rfl Gd.no (Qt.mv rfl) Held.c ?_
 refine GT 17 262143 rfl (by kernel_rfl) rfl rfl (Gd.yes rfl rfl) (Qt.mv rfl) Held.c ?_
 refine GT 18 524287 rfl (by kernel_rfl) rfl rfl (Gd.yes rfl rfl) (Qt.lenS (rt := 0) Try.underlying22 rfl) Held.c ?_
 refine GT 19 1048575 rfl (by kernel_rfl) rfl rfl (Gd.yes rfl rfl) (Qt.mv rfl) Held.c ?_
 refine GT 20 2097151 rfl (by kernel_rfl) rfl rfl (Gd.yes rfl rfl) (Qt.nilc rfl) Held.c ?_
 refine GT 21 4194303 rfl (by kernel_rfl) rfl rfl (Gd.yes rfl rfl) (Qt.fa0 fl102_2 rfl) Held.c ?_
 refine GT 22 8388607 rfl (by kernel_rfl) rfl rfl (Gd.yes rfl rfl) (Qt.ldc a22 rfl (by first | exact Rdc.o rfl | exact Rdc.o (nth_vIs (by omega)) | exact Rdc.o (nth_vI (by omega)) | exact Rdc.f hdb rfl | exact Rdc.f hf rfl | exact Rdc.f hfw (nth_vIs (by omega)))) Held.c ?_
 refine GT 23 16777215 rfl (by kernel_rfl) rfl rfl (Gd.yes rfl rfl) (Qt.lenS (rt := 0) Try.underlying22 rfl) Held.c ?_
 refine GT 24 33554431 rfl (by kernel_rfl) rfl rfl (Gd.yes rfl rfl) (Qt.neI rfl rfl) Held.c ?_
 rw [ne_self]
 refine GT 25 67108863 rfl (by kernel_rfl) rfl rfl Gd.no (Qt.pickf rfl rfl) Held.c ?_
 refine GH.done (by kernel_rfl) ?_
 refine GK.then ?_
 refine GC.condf rfl ?_
 refine GC.skip (GK.then (GC.seq (GC.seq (GC.region ?_))))
 refine G.q Gd.no (Qt.asg rfl) rfl ?_
 refine G.nil (GK.then (GC.block ?_))
 refine GC.loop (S := Nat) (fun x => x ≤ D.nw) (fun x => D.nw - x)
  (fun x => [(0, .pointer (some ⟨db, 0, none⟩)), (1, .pointer (some ⟨f, 0, none⟩)), (5, .slice (some ⟨qw, 0, none⟩) D.nw (D.nw + sw2.length)), (6, .int .i64 (x : Int))]) (fun x => [(some qw, .cells (vI .i64 D.wear ++ sw2) 3)]) 0 ?_ ?_ ?_ ?_
 ·omega
 ·exact ⟨rfl, rfl, rfl, rfl, trivial⟩
 ·exact ⟨_, (Tks.c (.nil _))⟩
 intro x hx
 refine GC.seq (GC.seq (GC.region ?_))
 refine G.q Gd.no (Qt.mv rfl) rfl ?_
 refine G.q Gd.no (Qt.mv rfl) rfl ?_
 refine G.q Gd.no (Qt.lenS (rt := 0) Try.underlying22 rfl) rfl ?_
 refine G.q Gd.no (Qt.lss rfl rfl) rfl ?_
 refine G.nil (GK.then ?_)
 refine GC.condb rfl (fun c1 => ?_) (fun c1 => ?_)
 ·try simp only [sB0, sB1, sB2, sB3, sB4, sB5, sB6, sB7, sB8] at c1
  refine GC.skip (GK.then (GC.seq (GC.block (GC.seq ?_))))
  refine GC.draw mixed _ Held.all ?_
  refine GT 0 1 rfl (by kernel_rfl) rfl rfl Gd.no (Qt.mv rfl) Held.c ?_
  refine GT 1 3 rfl (by kernel_rfl) rfl rfl Gd.no (Qt.mv rfl) Held.c ?_
  refine GT 2 7 rfl (by kernel_rfl) rfl rfl Gd.no (Qt.iab01 Try.underlying22 z3 rfl rfl (by omega) (by omega) (show ((x : Nat) : Int).toNat = x from rfl)) Held.c ?_
  refine GT 3 15 rfl (by kernel_rfl) rfl rfl Gd.no (Qt.ldc a3 rfl (by first | exact Rdc.o rfl | exact Rdc.o (nth_vIs (by omega)) | exact Rdc.o (nth_vI (by omega)) | exact Rdc.f hdb rfl | exact Rdc.f hf rfl | exact Rdc.f hfw (nth_vIs (by omega)))) Held.c ?_
  refine GT 4 31 rfl (by kernel_rfl) rfl rfl Gd.no (Qt.mv rfl) Held.c ?_
  refine GT 5 63 rfl (by kernel_rfl) rfl rfl Gd.no (Qt.nilc rfl) Held.c ?_
  refine GT 6 127 rfl (by kernel_rfl) rfl rfl Gd.no (Qt.fa0 fl102_2 rfl) Held.c ?_
  refine GT 7 255 rfl (by kernel_rfl) rfl rfl Gd.no (Qt.ldc a22 rfl (by first | exact Rdc.o rfl | exact Rdc.o (nth_vIs (by omega)) | exact Rdc.o (nth_vI (by omega)) | exact Rdc.f hdb rfl | exact Rdc.f hf rfl | exact Rdc.f hfw (nth_vIs (by omega)))) Held.c ?_
  refine GT 8 511 rfl (by kernel_rfl) rfl rfl Gd.no (Qt.mv rfl) Held.c ?_
  refine GT 9 1023 rfl (by kernel_rfl) rfl rfl Gd.no (Qt.iab01 Try.underlying22 z3 rfl rfl (by omega) (by omega) (show ((x : Nat) : Int).toNat = x from rfl)) Held.c ?_
  refine GT 10 2047 rfl (by kernel_rfl) rfl rfl Gd.no (Qt.ldc a3 rfl (by first | exact Rdc.o rfl | exact Rdc.o (nth_vIs (by omega)) | exact Rdc.o (nth_vI (by omega)) | exact Rdc.f hdb rfl | exact Rdc.f hf rfl | exact Rdc.f hfw (nth_vIs (by omega)))) Held.c ?_
  refine GT 11 4095 rfl (by kernel_rfl) rfl rfl Gd.no (Qt.neI rfl rfl) Held.c ?_
  rw [ne_self]
  refine GH.done (by kernel_rfl) ?_
  refine GK.then ?_
  refine GC.condf rfl ?_
  refine GC.skip (GK.blockn (GK.then (GC.region ?_)))
  refine G.q Gd.no (Qt.mv rfl) rfl ?_
  refine G.q Gd.no (Qt.add rfl rfl (by first | exact i64_id (by omega) (by omega) | exact rfl)) rfl ?_
  refine G.q Gd.no (Qt.asg rfl) rfl ?_
  refine G.nil ?_
  refine GK.head (x + 1) ?_ ?_ ?_ ?_
  ·omega
  ·omega
  ·exact ⟨rfl, rfl, rfl, rfl, trivial⟩
  ·exact ⟨_, (Tks.c (.nil _))⟩
 ·try simp only [sB0, sB1, sB2, sB3, sB4, sB5, sB6, sB7, sB8] at c1
  refine GC.exit (GK.thene (GK.thene (GK.blocke (GK.then (GC.seq (GC.region ?_))))))
  refine G.q Gd.no (Qt.mv rfl) rfl ?_
  refine G.q Gd.no (Qt.mv rfl) rfl ?_
  refine G.q Gd.no (Qt.nilc rfl) rfl ?_
  refine G.q Gd.no (Qt.fa0 fl102_1 rfl) rfl ?_
  refine G.q Gd.no (Qt.ldc a53 rfl (by first | exact Rdc.o rfl | exact Rdc.o (nth_vIs (by omega)) | exact Rdc.o (nth_vI (by omega)) | exact Rdc.f hdb rfl | exact Rdc.f hf rfl | exact Rdc.f hfw (nth_vIs (by omega)))) rfl ?_
  refine G.q Gd.no (Qt.lenS (rt := 0) Try.underlying53 rfl) rfl ?_
  refine G.ld Gd.no (Ld.call cal49 rfl rfl (.nil _) (fun F' hF => readDown_ct F' _ _ _ _ _ _ (hF.fr hdb) _ _ hd) (fun _ _ => ?_))
  dsimp only [lCa, lNa]
  refine G.q Gd.no (Qt.mv rfl) rfl ?_
  refine G.q Gd.no (Qt.ext rfl rfl) rfl ?_
  refine G.q Gd.no (Qt.ext rfl rfl) rfl ?_
  refine G.q Gd.no (Qt.asg rfl) rfl ?_
  refine G.q Gd.no (Qt.asg rfl) rfl ?_
  refine G.nil (GK.then (GC.seq (GC.region ?_)))
  refine G.q Gd.no (Qt.mv rfl) rfl ?_
  refine G.q Gd.no (Qt.nilc rfl) rfl ?_
  refine G.q Gd.no (Qt.fa0 fl102_6 rfl) rfl ?_
  refine G.q Gd.no (Qt.ldc a4 rfl (by first | exact Rdc.o rfl | exact Rdc.o (nth_vIs (by omega)) | exact Rdc.o (nth_vI (by omega)) | exact Rdc.f hdb rfl | exact Rdc.f hf rfl | exact Rdc.f hfw (nth_vIs (by omega)))) rfl ?_
  rw [hd]
  refine G.q Gd.no (Qt.mv rfl) rfl ?_
  apply G.orb (seg := [_, _, _, _, _, _, _, _, _, _]) (b2 := false)
  exact rfl
  exact rfl
  exact rfl
  exact Gd.no
  exact rfl
  exact rfl
  ·intro g5; try simp only [sB0, sB1, sB2, sB3, sB4, sB5, sB6, sB7, sB8] at g5
   exact absurd g5 (by simp)
  refine G.q Gd.no (Qt.asg rfl) rfl ?_
  refine G.nil (GK.then (GC.ret ?_))
  refine GK.ret (rs := [.tmp 4]) rfl (.tmp rfl .nil) () ?_ ?_ (.nil _)
  ·trivial
  ·rfl
theorem sdUp_ct (F : Fr) (db bb bw cb cw f fb fw gb gw : Nat) (sb sw tb tw : List Value) (D : Dev) (hdb : F.h db = some (Blk.cells (devC D bb bw cb cw) 81).toObj) (hbb : F.h bb = some (Blk.cells (vI .u8 D.bytes ++ sb) 5).toObj) (hbw : F.h bw = some (Blk.cells (vI .i64 D.wear ++ sw) 3).toObj) (hf : F.h f = some (Blk.cells (devC D fb fw gb gw) 102).toObj) (hfb : F.h fb = some (Blk.cells (vI .u8 D.bytes ++ tb) 5).toObj) (hfw : F.h fw = some (Blk.cells (vI .i64 D.wear ++ tw) 3).toObj) (fine : D.Fine) (hcb : D.n ≤ cb) (hgb : D.n ≤ gb) (hd : D.down = false) (hn : 0 < D.n) :
    Ct Try.prog F 28 [.pointer (some ⟨db, 0, none⟩), .pointer (some ⟨f, 0, none⟩)] [] (S := Unit) (fun _ => True) (fun _ => .bool true) (fun _ => []) := by
 have hw := fine.ok.hw
 have hbl := fine.ok.hn
 have hwl := fine.ok.wlen
 have hln := fine.ok.len
 have z0 := fine.geo.size0
 refine Ct.of 81 [(0, _), (1, _)] Try.func28 rfl rfl rfl rfl ?_
 refine GC.seq (GC.region ?_)
 refine G.q Gd.no (Qt.asg rfl) rfl ?_
 refine G.nil (GK.then (GC.seq (GC.region ?_)))
 refine G.q Gd.no (Qt.mv rfl) rfl ?_
 refine G.ld Gd.no (Ld.call cal68 rfl rfl (.nil _) (fun F' hF => wear_ct F' _ _ _ _ _ _ _ (hF.fr hdb) (hF.fr hbw) fine.ok) (fun ⟨qw, sw2⟩ _ => ?_))
 dsimp only [lCa, lNa]
 refine G.q Gd.no (Qt.asg rfl) rfl ?_
 refine G.nil (GK.then (GC.seq (GC.seq ?_)))
 refine GC.draw mixed _ Held.all ?_
 refine GT 0 1 rfl (by kernel_rfl) rfl rfl Gd.no (Qt.mv rfl) Held.c ?_
 refine GT 2 5 rfl (by kernel_rfl) rfl rfl Gd.no (Qt.mv rfl) Held.c ?_
 refine GT 3 13 rfl (by kernel_rfl) rfl rfl Gd.no (Qt.nilc rfl) Held.c ?_
 refine GT 4 29 rfl (by kernel_rfl) rfl rfl Gd.no (Qt.fa0 fl102_6 rfl) Held.c ?_
 refine GT 5 61 rfl (by kernel_rfl) rfl rfl Gd.no (Qt.ldc a4 rfl (by first | exact Rdc.o rfl | exact Rdc.o (nth_vIs (by omega)) | exact Rdc.o (nth_vI (by omega)) | exact Rdc.f hdb rfl | exact Rdc.f hf rfl | exact Rdc.f hfw (nth_vIs (by omega)))) Held.c ?_
 refine GO 1 63 (by kernel_rfl) rfl rfl Gd.no (Ld.call cal69 rfl rfl (.nil _) (fun F' hF => down_ct F' _ _ _ _ _ _ (hF.fr hdb)) (fun _ _ => ?_))
 dsimp only [lCa, lNa]
 refine ⟨Held.c, ?_⟩
 refine GT 6 127 rfl (by kernel_rfl) rfl rfl Gd.no (Qt.neB Try.underlying4 rfl rfl) Held.c ?_
 rw [neB_self]
 refine GT 7 255 rfl (by kernel_rfl) rfl rfl Gd.no (Qt.mv rfl) Held.c ?_
 refine GT 8 511 rfl (by kernel_rfl) rfl rfl (Gd.yes rfl rfl) (Qt.mv rfl) Held.c ?_
 refine GT 10 1535 rfl (by kernel_rfl) rfl rfl (Gd.yes rfl rfl) (Qt.mv rfl) Held.c ?_
 refine GT 11 3583 rfl (by kernel_rfl) rfl rfl (Gd.yes rfl rfl) (Qt.nilc rfl) Held.c ?_
 refine GT 12 7679 rfl (by kernel_rfl) rfl rfl (Gd.yes rfl rfl) (Qt.fa0 fl102_3 rfl) Held.c ?_
 refine GT 13 15871 rfl (by kernel_rfl) rfl rfl (Gd.yes rfl rfl) (Qt.ldc a3 rfl (by first | exact Rdc.o rfl | exact Rdc.o (nth_vIs (by omega)) | exact Rdc.o (nth_vI (by omega)) | exact Rdc.f hdb rfl | exact Rdc.f hf rfl | exact Rdc.f hfw (nth_vIs (by omega)))) Held.c ?_
 refine GO 9 16383 (by kernel_rfl) rfl rfl (Gd.yes rfl rfl) (Ld.call cal70 rfl rfl (.nil _) (fun F' hF => steps_ct F' _ _ _ _ _ _ (hF.fr hdb)) (fun _ _ => ?_))
 dsimp only [lCa, lNa]
 refine ⟨Held.c, ?_⟩
 refine GT 14 32767 rfl (by kernel_rfl) rfl rfl (Gd.yes rfl rfl) (Qt.neI rfl rfl) Held.c ?_
 rw [ne_self]
 refine GT 15 65535 rfl (by kernel_rfl) rfl rfl Gd.no (Qt.pickf rfl rfl) Held.c ?_
 refine GT 16 131071 rfl (by kernel_rfl) rfl rfl Gd.no (Qt.mv rfl) Held.c ?_
 refine GT 17 262143 rfl (by kernel_rfl) rfl rfl (Gd.yes rfl rfl) (Qt.mv rfl) Held.c ?_
 refine GT 18 524287 rfl (by kernel_rfl) rfl rfl (Gd.yes rfl rfl) (Qt.lenS (rt := 0) Try.underlying22 rfl) Held.c ?_
 refine GT 19 1048575 rfl (by kernel_rfl) rfl rfl (Gd.yes rfl rfl) (Qt.mv rfl) Held.c ?_
 refine GT 20 2097151 rfl (by kernel_rfl) rfl rfl (Gd.yes rfl rfl) (Qt.nilc rfl) Held.c ?_
 refine GT 21 4194303 rfl (by kernel_rfl) rfl rfl (Gd.yes rfl rfl) (Qt.fa0 fl102_2 rfl) Held.c ?_
 refine GT 22 8388607 rfl (by kernel_rfl) rfl rfl (Gd.yes rfl rfl) (Qt.ldc a22 rfl (by first | exact Rdc.o rfl | exact Rdc.o (nth_vIs (by omega)) | exact Rdc.o (nth_vI (by omega)) | exact Rdc.f hdb rfl | exact Rdc.f hf rfl | exact Rdc.f hfw (nth_vIs (by omega)))) Held.c ?_
 refine GT 23 16777215 rfl (by kernel_rfl) rfl rfl (Gd.yes rfl rfl) (Qt.lenS (rt := 0) Try.underlying22 rfl) Held.c ?_
 refine GT 24 33554431 rfl (by kernel_rfl) rfl rfl (Gd.yes rfl rfl) (Qt.neI rfl rfl) Held.c ?_
 rw [ne_self]
 refine GT 25 67108863 rfl (by kernel_rfl) rfl rfl Gd.no (Qt.pickf rfl rfl) Held.c ?_
 refine GH.done (by kernel_rfl) ?_
 refine GK.then ?_
 refine GC.condf rfl ?_
 refine GC.skip (GK.then (GC.seq (GC.seq (GC.region ?_))))
 refine G.q Gd.no (Qt.asg rfl) rfl ?_
 refine G.nil (GK.then (GC.block ?_))
 refine GC.loop (S := Nat) (fun x => x ≤ D.nw) (fun x => D.nw - x)
  (fun x => [(0, .pointer (some ⟨db, 0, none⟩)), (1, .pointer (some ⟨f, 0, none⟩)), (5, .slice (some ⟨qw, 0, none⟩) D.nw (D.nw + sw2.length)), (6, .int .i64 (x : Int))]) (fun x => [(some qw, .cells (vI .i64 D.wear ++ sw2) 3)]) 0 ?_ ?_ ?_ ?_
 ·omega
 ·exact ⟨rfl, rfl, rfl, rfl, trivial⟩
 ·exact ⟨_, (Tks.c (.nil _))⟩
 intro x hx
 refine GC.seq (GC.seq (GC.region ?_))
 refine G.q Gd.no (Qt.mv rfl) rfl ?_
 refine G.q Gd.no (Qt.mv rfl) rfl ?_
 refine G.q Gd.no (Qt.lenS (rt := 0) Try.underlying22 rfl) rfl ?_
 refine G.q Gd.no (Qt.lss rfl rfl) rfl ?_
 refine G.nil (GK.then ?_)
 refine GC.condb rfl (fun c1 => ?_) (fun c1 => ?_)
 ·try simp only [sB0, sB1, sB2, sB3, sB4, sB5, sB6, sB7, sB8] at c1
  refine GC.skip (GK.then (GC.seq (GC.block (GC.seq ?_))))
  refine GC.draw mixed _ Held.all ?_
  refine GT 0 1 rfl (by kernel_rfl) rfl rfl Gd.no (Qt.mv rfl) Held.c ?_
  refine GT 1 3 rfl (by kernel_rfl) rfl rfl Gd.no (Qt.mv rfl) Held.c ?_
  refine GT 2 7 rfl (by kernel_rfl) rfl rfl Gd.no (Qt.iab01 Try.underlying22 z3 rfl rfl (by omega) (by omega) (show ((x : Nat) : Int).toNat = x from rfl)) Held.c ?_
  refine GT 3 15 rfl (by kernel_rfl) rfl rfl Gd.no (Qt.ldc a3 rfl (by first | exact Rdc.o rfl | exact Rdc.o (nth_vIs (by omega)) | exact Rdc.o (nth_vI (by omega)) | exact Rdc.f hdb rfl | exact Rdc.f hf rfl | exact Rdc.f hfw (nth_vIs (by omega)))) Held.c ?_
  refine GT 4 31 rfl (by kernel_rfl) rfl rfl Gd.no (Qt.mv rfl) Held.c ?_
  refine GT 5 63 rfl (by kernel_rfl) rfl rfl Gd.no (Qt.nilc rfl) Held.c ?_
  refine GT 6 127 rfl (by kernel_rfl) rfl rfl Gd.no (Qt.fa0 fl102_2 rfl) Held.c ?_
  refine GT 7 255 rfl (by kernel_rfl) rfl rfl Gd.no (Qt.ldc a22 rfl (by first | exact Rdc.o rfl | exact Rdc.o (nth_vIs (by omega)) | exact Rdc.o (nth_vI (by omega)) | exact Rdc.f hdb rfl | exact Rdc.f hf rfl | exact Rdc.f hfw (nth_vIs (by omega)))) Held.c ?_
  refine GT 8 511 rfl (by kernel_rfl) rfl rfl Gd.no (Qt.mv rfl) Held.c ?_
  refine GT 9 1023 rfl (by kernel_rfl) rfl rfl Gd.no (Qt.iab01 Try.underlying22 z3 rfl rfl (by omega) (by omega) (show ((x : Nat) : Int).toNat = x from rfl)) Held.c ?_
  refine GT 10 2047 rfl (by kernel_rfl) rfl rfl Gd.no (Qt.ldc a3 rfl (by first | exact Rdc.o rfl | exact Rdc.o (nth_vIs (by omega)) | exact Rdc.o (nth_vI (by omega)) | exact Rdc.f hdb rfl | exact Rdc.f hf rfl | exact Rdc.f hfw (nth_vIs (by omega)))) Held.c ?_
  refine GT 11 4095 rfl (by kernel_rfl) rfl rfl Gd.no (Qt.neI rfl rfl) Held.c ?_
  rw [ne_self]
  refine GH.done (by kernel_rfl) ?_
  refine GK.then ?_
  refine GC.condf rfl ?_
  refine GC.skip (GK.blockn (GK.then (GC.region ?_)))
  refine G.q Gd.no (Qt.mv rfl) rfl ?_
  refine G.q Gd.no (Qt.add rfl rfl (by first | exact i64_id (by omega) (by omega) | exact rfl)) rfl ?_
  refine G.q Gd.no (Qt.asg rfl) rfl ?_
  refine G.nil ?_
  refine GK.head (x + 1) ?_ ?_ ?_ ?_
  ·omega
  ·omega
  ·exact ⟨rfl, rfl, rfl, rfl, trivial⟩
  ·exact ⟨_, (Tks.c (.nil _))⟩
 ·try simp only [sB0, sB1, sB2, sB3, sB4, sB5, sB6, sB7, sB8] at c1
  refine GC.exit (GK.thene (GK.thene (GK.blocke (GK.then (GC.seq (GC.region ?_))))))
  refine G.q Gd.no (Qt.mv rfl) rfl ?_
  refine G.q Gd.no (Qt.mv rfl) rfl ?_
  refine G.q Gd.no (Qt.nilc rfl) rfl ?_
  refine G.q Gd.no (Qt.fa0 fl102_1 rfl) rfl ?_
  refine G.q Gd.no (Qt.ldc a53 rfl (by first | exact Rdc.o rfl | exact Rdc.o (nth_vIs (by omega)) | exact Rdc.o (nth_vI (by omega)) | exact Rdc.f hdb rfl | exact Rdc.f hf rfl | exact Rdc.f hfw (nth_vIs (by omega)))) rfl ?_
  refine G.q Gd.no (Qt.lenS (rt := 0) Try.underlying53 rfl) rfl ?_
  refine G.ld Gd.no (Ld.call cal49 rfl rfl (.nil _) (fun F' hF => read_ct F' _ _ _ _ _ _ _ (hF.fr hdb) (hF.fr hbb) fine.ok hcb 0 D.n hd (by omega) (by omega) (by omega)) (fun ⟨qr, sr⟩ _ => ?_))
  dsimp only [lCa, lNa]
  rw [show ((D.bytes.drop (0 : Int).toNat).take (D.n : Int).toNat) = D.bytes from by rw [show (0 : Int).toNat = 0 from rfl, List.drop_zero, Int.toNat_natCast, List.take_of_length_le (by omega)], Int.toNat_natCast, ← hbl]
  refine G.q Gd.no (Qt.mv rfl) rfl ?_
  refine G.q Gd.no (Qt.ext rfl rfl) rfl ?_
  refine G.q Gd.no (Qt.ext rfl rfl) rfl ?_
  refine G.q Gd.no (Qt.asg rfl) rfl ?_
  refine G.q Gd.no (Qt.asg rfl) rfl ?_
  refine G.nil (GK.then (GC.seq (GC.region ?_)))
  refine G.q Gd.no (Qt.mv rfl) rfl ?_
  refine G.q Gd.no (Qt.nilc rfl) rfl ?_
  refine G.q Gd.no (Qt.fa0 fl102_6 rfl) rfl ?_
  refine G.q Gd.no (Qt.ldc a4 rfl (by first | exact Rdc.o rfl | exact Rdc.o (nth_vIs (by omega)) | exact Rdc.o (nth_vI (by omega)) | exact Rdc.f hdb rfl | exact Rdc.f hf rfl | exact Rdc.f hfw (nth_vIs (by omega)))) rfl ?_
  rw [hd]
  refine G.q Gd.no (Qt.mv rfl) rfl ?_
  apply G.orb (seg := [_, _, _, _, _, _, _, _, _, _])
  exact rfl
  exact rfl
  exact rfl
  exact Gd.no
  exact rfl
  exact rfl
  ·intro g5; try simp only [sB0, sB1, sB2, sB3, sB4, sB5, sB6, sB7, sB8] at g5
   refine G.q (Gd.yes rfl rfl) (Qt.mv rfl) rfl ?_
   refine G.q (Gd.yes rfl rfl) (Qt.eqI rfl rfl) rfl ?_
   refine G.q (Gd.yes rfl rfl) (Qt.mv rfl) rfl ?_
   apply G.andb (seg := [_, _, _, _, _, _])
   exact rfl
   exact rfl
   exact rfl
   exact (Gd.yes rfl rfl)
   exact rfl
   exact rfl
   ·intro g8; try simp only [sB0, sB1, sB2, sB3, sB4, sB5, sB6, sB7, sB8] at g8
    refine G.q (Gd.yes rfl rfl) (Qt.mv rfl) rfl ?_
    refine G.q (Gd.yes rfl rfl) (Qt.mv rfl) rfl ?_
    refine G.q (Gd.yes rfl rfl) (Qt.nilc rfl) rfl ?_
    refine G.q (Gd.yes rfl rfl) (Qt.fa0 fl102_1 rfl) rfl ?_
    refine G.q (Gd.yes rfl rfl) (Qt.ldc a53 rfl (by first | exact Rdc.o rfl | exact Rdc.o (nth_vIs (by omega)) | exact Rdc.o (nth_vI (by omega)) | exact Rdc.f hdb rfl | exact Rdc.f hf rfl | exact Rdc.f hfw (nth_vIs (by omega)))) rfl ?_
    refine G.ld (Gd.yes rfl rfl) (Ld.call cal71 rfl rfl (.nil _) (fun F' hF => by have h := rsame_ct F' (some ⟨qr, 0, none⟩) (some ⟨fb, 0, none⟩) (D.bytes.length + sr.length) gb D.bytes D.bytes (VwF.ofPre (hF.own In.o)) (VwF.ofPre (hF.fr hfb)) (by omega) (by omega); rw [hbl] at h ⊢; exact h) (fun _ _ => ?_))
    dsimp only [lCa, lNa]
    rw [decide_eq_true rfl]
    refine G.nil (GK.seg (n := [_, _, _, _, _, _]) rfl rfl rfl (by first | exact Tks.all _ | exact Tks.skip (Tks.all _) | exact Tks.skip (Tks.skip (Tks.all _)) | exact Tks.skip (Tks.skip (Tks.skip (Tks.all _)))))
   refine G.nil (GK.seg (n := [_, _, _, _]) rfl rfl rfl (by first | exact Tks.all _ | exact Tks.skip (Tks.all _) | exact Tks.skip (Tks.skip (Tks.all _)) | exact Tks.skip (Tks.skip (Tks.skip (Tks.all _)))))
  refine G.q Gd.no (Qt.asg rfl) rfl ?_
  refine G.nil (GK.then (GC.ret ?_))
  refine GK.ret (rs := [.tmp 4]) rfl (.tmp rfl .nil) () ?_ ?_ (.nil _)
  ·trivial
  ·(simp [tup])
set_option maxHeartbeats 1600000 in
theorem same_ct (F : Fr) (b : Nat) (d : Option Addr) (rb : Option Nat) (rc : Nat) (sp : List Value) (Y : Lg) (hb : F.h b = some (Blk.cells (lgC Y d rb rc) 85).toObj) (hr : VwF F (oA rb) (Y.recs.flatMap recC)) (hrb : ∀ r, rb = some r → F.h r = some (Blk.cells (Y.recs.flatMap recC ++ sp) 90).toObj) (hlen : Y.recs.length ≤ 16777216) (r f fb fw gb gw : Nat) (tb : List Value) (R : Rl) (D : Dev) (hR : F.h r = some (Blk.cells (rlC R f) 105).toObj) (hf : F.h f = some (Blk.cells (devC D fb fw gb gw) 102).toObj) (hfb : F.h fb = some (Blk.cells (vI .u8 D.bytes ++ tb) 5).toObj) (fine : D.Fine) (rf : R.Fine D) (hgb : D.n ≤ gb) (hS : R.S ≤ 1048576) (hev : Y.events = R.records D) (hfull : Y.full = R.refused) (id : Int) :
    Ct Try.prog F 27 [.pointer (some ⟨b, 0, none⟩), .pointer (some ⟨r, 0, none⟩), .int .u16 id] [] (S := Unit) (fun _ => True) (fun _ => .bool true) (fun _ => []) := by
 have hel : Y.recs.length = (R.records D).length := by rw [← hev]; simp [Lg.events]
 obtain ⟨rs, hrs⟩ : ∃ rs, R.records D = rs := ⟨_, rfl⟩
 rw [hrs] at hev hel
 refine Ct.of 65 [(0, _), (1, _), (2, _)] Try.func27 rfl rfl rfl rfl ?_
 refine GC.seq (GC.region ?_)
 refine G.q Gd.no (Qt.asg rfl) rfl ?_
 refine G.nil (GK.then (GC.seq (GC.region ?_)))
 refine G.q Gd.no (Qt.mv rfl) rfl ?_
 refine G.q Gd.no (Qt.mv rfl) rfl ?_
 refine G.ld Gd.no (Ld.call cal65 rfl rfl (.nil _) (fun F' hF => get_ct F' b d rb rc Y sp (hF.fr hb) (hr.mono hF) (fun x hx => hF.fr (hrb x hx)) hlen id) (fun _ _ => ?_))
 dsimp only [lCa, lNa]
 rw [hev]
 refine G.q Gd.no (Qt.mv rfl) rfl ?_
 refine G.q Gd.no (Qt.ext rfl rfl) rfl ?_
 refine G.q Gd.no (Qt.ext rfl rfl) rfl ?_
 refine G.q Gd.no (Qt.ext rfl rfl) rfl ?_
 refine G.ld Gd.no (Ld.alloc rfl ze40 (by first | exact Cl.one rfl | exact Cl.agg) (fun b7 => ?_))
 refine G.ld Gd.no (Ld.stW (by exact z40) rfl rfl (evC_one _) (E := 40) (by rfl) UpdC.u ?_)
 refine G.q Gd.no (Qt.asg rfl) rfl ?_
 refine G.q Gd.no (Qt.asg rfl) rfl ?_
 refine G.nil (GK.then (GC.seq (GC.region ?_)))
 refine G.q Gd.no (Qt.mv rfl) rfl ?_
 refine G.q Gd.no (Qt.mv rfl) rfl ?_
 refine G.ld Gd.no (Ld.call cal66 rfl rfl (.nil _) (fun F' hF => rget_ct F' _ _ _ _ _ _ R D (hF.fr hR) (hF.fr hf) fine rf _ (hF.fr hfb) hgb hS id) (fun _ _ => ?_))
 dsimp only [lCa, lNa]
 rw [hrs]
 refine G.q Gd.no (Qt.mv rfl) rfl ?_
 refine G.q Gd.no (Qt.ext rfl rfl) rfl ?_
 refine G.q Gd.no (Qt.ext rfl rfl) rfl ?_
 refine G.q Gd.no (Qt.ext rfl rfl) rfl ?_
 refine G.ld Gd.no (Ld.alloc rfl ze40 (by first | exact Cl.one rfl | exact Cl.agg) (fun b10 => ?_))
 refine G.ld Gd.no (Ld.stW (by exact z40) rfl rfl (evC_one _) (E := 40) (by rfl) UpdC.u ?_)
 refine G.q Gd.no (Qt.asg rfl) rfl ?_
 refine G.q Gd.no (Qt.asg rfl) rfl ?_
 refine G.nil (GK.then (GC.seq (GC.region ?_)))
 refine G.q Gd.no (Qt.mv rfl) rfl ?_
 refine G.ld Gd.no (Ld.call cal67 rfl rfl (.nil _) (fun F' hF => rrecords_ct F' _ _ _ _ _ _ R D (hF.fr hR) (hF.fr hf) fine rf _ (hF.fr hfb) hgb hS) (fun ⟨q1, q2, q3⟩ hq => ?_))
 dsimp only [lCa, lNa]
 rw [hrs] at hq ⊢
 refine G.q Gd.no (Qt.asg rfl) rfl ?_
 refine G.nil (GK.then (GC.seq ?_))
 refine GC.draw mixed _ Held.all ?_
 refine GT 0 1 rfl (by kernel_rfl) rfl rfl Gd.no (Qt.ldW a40 rfl Rd.o z40) Held.c ?_
 refine GT 1 3 rfl (by kernel_rfl) rfl rfl Gd.no (Qt.ldW a40 rfl Rd.o z40) Held.c ?_
 refine GT 2 7 rfl (by kernel_rfl) rfl rfl Gd.no (Qt.eqA Try.underlying40 si40 eg40 rfl rfl (.cons (by decide) (.leaf a36 rfl rfl (.int Try.underlying36)) (.cons (by decide) (.leaf a37 rfl rfl (.int Try.underlying37)) (.cons (by decide) (.leaf a36 rfl rfl (.int Try.underlying36)) (.cons (by decide) (.leaf a5 rfl rfl (.int Try.underlying5)) (.cons (by decide) (.leaf a5 rfl rfl (.int Try.underlying5)) (.cons (by decide) (.leaf a5 rfl rfl (.int Try.underlying5)) (.cons (by decide) (.leaf a4 rfl rfl (.bool Try.underlying4)) (.cons (by decide) (.arr a38 z38 rfl rfl Try.underlying38 z5 a5 (.cons rfl rfl (.int Try.underlying5) (.cons rfl rfl (.int Try.underlying5) (.cons rfl rfl (.int Try.underlying5) .nil)))) .nil))))))))) Held.c ?_
 rw [evEq_self]
 refine GT 3 15 rfl (by kernel_rfl) rfl rfl Gd.no (Qt.mv rfl) Held.c ?_
 refine GT 4 31 rfl (by kernel_rfl) rfl rfl (Gd.yes rfl rfl) (Qt.mv rfl) Held.c ?_
 refine GT 5 63 rfl (by kernel_rfl) rfl rfl (Gd.yes rfl rfl) (Qt.mv rfl) Held.c ?_
 refine GT 6 127 rfl (by kernel_rfl) rfl rfl (Gd.yes rfl rfl) (Qt.eqI rfl rfl) Held.c ?_
 rw [eq_self]
 refine GT 7 255 rfl (by kernel_rfl) rfl rfl Gd.no (Qt.pickt rfl rfl) Held.c ?_
 refine GT 8 511 rfl (by kernel_rfl) rfl rfl Gd.no (Qt.mv rfl) Held.c ?_
 refine GT 9 1023 rfl (by kernel_rfl) rfl rfl (Gd.yes rfl rfl) (Qt.mv rfl) Held.c ?_
 refine GT 10 2047 rfl (by kernel_rfl) rfl rfl (Gd.yes rfl rfl) (Qt.mv rfl) Held.c ?_
 refine GT 11 4095 rfl (by kernel_rfl) rfl rfl (Gd.yes rfl rfl) (Qt.eqI rfl rfl) Held.c ?_
 rw [eq_self]
 refine GT 12 8191 rfl (by kernel_rfl) rfl rfl Gd.no (Qt.pickt rfl rfl) Held.c ?_
 refine GT 13 16383 rfl (by kernel_rfl) rfl rfl Gd.no (Qt.mv rfl) Held.c ?_
 refine GT 14 32767 rfl (by kernel_rfl) rfl rfl (Gd.yes rfl rfl) (Qt.mv rfl) Held.c ?_
 refine GT 16 98303 rfl (by kernel_rfl) rfl rfl (Gd.yes rfl rfl) (Qt.mv rfl) Held.c ?_
 refine GT 17 229375 rfl (by kernel_rfl) rfl rfl (Gd.yes rfl rfl) (Qt.lenS (rt := 0) Try.underlying29 rfl) Held.c ?_
 refine GO 15 262143 (by kernel_rfl) rfl rfl (Gd.yes rfl rfl) (Ld.call cal36 rfl rfl (.nil _) (fun F' hF => len_ct F' _ _ _ _ _ (hF.fr hb)) (fun _ _ => ?_))
 dsimp only [lCa, lNa]
 rw [hel]
 refine ⟨Held.c, ?_⟩
 refine GT 18 524287 rfl (by kernel_rfl) rfl rfl (Gd.yes rfl rfl) (Qt.eqI rfl rfl) Held.c ?_
 rw [eq_self]
 refine GT 19 1048575 rfl (by kernel_rfl) rfl rfl Gd.no (Qt.pickt rfl rfl) Held.c ?_
 refine GT 20 2097151 rfl (by kernel_rfl) rfl rfl Gd.no (Qt.mv rfl) Held.c ?_
 refine GT 21 4194303 rfl (by kernel_rfl) rfl rfl (Gd.yes rfl rfl) (Qt.mv rfl) Held.c ?_
 refine GT 23 12582911 rfl (by kernel_rfl) rfl rfl (Gd.yes rfl rfl) (Qt.mv rfl) Held.c ?_
 refine GO 22 16777215 (by kernel_rfl) rfl rfl (Gd.yes rfl rfl) (Ld.call cal18 rfl rfl (.nil _) (fun F' hF => records_ct F' b d rb rc Y (hF.fr hb) (hr.mono hF) hlen) (fun ⟨q4, q5, q6⟩ hq2 => ?_))
 dsimp only [lCa, lNa]
 rw [hev]
 refine ⟨Held.c, ?_⟩
 refine GO 24 33554431 (by kernel_rfl) rfl rfl (Gd.yes rfl rfl) (Ld.call cal19 rfl rfl (.nil _) (fun F' hF => slist_ct F' _ _ _ _ rs rs (VwF.oA (ob := q4) (fun b hb => by subst hb; exact VwF.ofPre (hF.own In.o)) (fun e => by rw [← hev]; unfold Lg.events; rw [(hq2.2 e).1]; rfl)) (VwF.oA (ob := q1) (fun b hb => by subst hb; exact VwF.ofPre (hF.own In.o)) (fun e => by rw [(hq.2 e).1]; rfl)) (by omega) (by omega)) (fun _ _ => ?_))
 dsimp only [lCa, lNa]
 rw [decide_eq_true (p := rs = rs) rfl]
 refine ⟨Held.c, ?_⟩
 refine GT 25 67108863 rfl (by kernel_rfl) rfl rfl Gd.no (Qt.pickt rfl rfl) Held.c ?_
 refine GT 26 134217727 rfl (by kernel_rfl) rfl rfl Gd.no (Qt.mv rfl) Held.c ?_
 refine GT 27 268435455 rfl (by kernel_rfl) rfl rfl (Gd.yes rfl rfl) (Qt.mv rfl) Held.c ?_
 refine GT 29 805306367 rfl (by kernel_rfl) rfl rfl (Gd.yes rfl rfl) (Qt.mv rfl) Held.c ?_
 refine GT 30 1879048191 rfl (by kernel_rfl) rfl rfl (Gd.yes rfl rfl) (Qt.nilc rfl) Held.c ?_
 refine GT 31 4026531839 rfl (by kernel_rfl) rfl rfl (Gd.yes rfl rfl) (Qt.fa0 fl105_4 rfl) Held.c ?_
 refine GT 32 8321499135 rfl (by kernel_rfl) rfl rfl (Gd.yes rfl rfl) (Qt.ldc a4 rfl (by first | exact Rdc.o rfl | exact Rdc.o (nth_vIs (by omega)) | exact Rdc.o (nth_vI (by omega)) | exact Rdc.f hb rfl | exact Rdc.f hR rfl | exact Rdc.f hf rfl)) Held.c ?_
 refine GO 28 8589934591 (by kernel_rfl) rfl rfl (Gd.yes rfl rfl) (Ld.call cal37 rfl rfl (.nil _) (fun F' hF => full_ct F' _ _ _ _ _ (hF.fr hb)) (fun _ _ => ?_))
 dsimp only [lCa, lNa]
 rw [hfull]
 refine ⟨Held.c, ?_⟩
 refine GT 33 17179869183 rfl (by kernel_rfl) rfl rfl (Gd.yes rfl rfl) (Qt.eqB Try.underlying4 rfl rfl) Held.c ?_
 rw [eqB_self]
 refine GT 34 34359738367 rfl (by kernel_rfl) rfl rfl Gd.no (Qt.pickt rfl rfl) Held.c ?_
 refine GT 35 68719476735 rfl (by kernel_rfl) rfl rfl Gd.no (Qt.asg rfl) Held.c ?_
 refine GH.done (by kernel_rfl) ?_
 refine GK.then (GC.ret ?_)
 refine GK.ret (rs := [.tmp 6]) rfl (.tmp rfl .nil) () ?_ ?_ (.nil _)
 ·trivial
 ·rfl
end Go.Proofs.Ytbeiciinppmekaa
