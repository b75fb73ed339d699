/-
  baseboardref09's Log: Add does what the model says; its conditions are its premises.
-/
import Derived.Test.YtbeiciinppmekaaTb
import Derived.Test.YtbeiciinppmekaaPlb
import Derived.Test.YtbeiciinppmekaaProg
namespace Go.Proofs.Ytbeiciinppmekaa
open Go Go.Sx Go.Proofs
set_option maxRecDepth 100000
set_option linter.unusedSimpArgs false
set_option linter.unusedVariables false
def Rl.slotAt (R : Rl) (D : Dev) (i : Int) : Int := R.base D (((R.newest D).1 - 1) % R.S) + 11 + 17 * i
def Rl.put (R : Rl) (D : Dev) (e1 : Ev) (i : Int) : Rl × Dev × Int × Int :=
  if (D.program (R.slotAt D i) (evEnc e1 ++ [0])).2 = 0 then (R, (D.program (R.slotAt D i) (evEnc e1 ++ [0])).1, e1.id, 0) else (R.endR, (D.program (R.slotAt D i) (evEnc e1 ++ [0])).1, 0, 10)
def Rl.tl0 (R : Rl) (D : Dev) : Int := max (R.newest D).2 1
def Rl.tl (R : Rl) (D : Dev) : Int := if R.S - 2 < (R.newest D).1 + 1 - R.tl0 D then R.tl0 D + 1 else R.tl0 D
def Rl.add (R : Rl) (D : Dev) (e : Ev) : Rl × Dev × Int × Int :=
  if R.ended || D.down then (R.endR, D, 0, 10) else
  if e.valid = false ∨ ¬ e.id = 0 then (R, D, 0, 1) else
  if R.place D < 0 then
    if R.S - 2 < (R.newest D).1 + 1 - R.tl0 D ∧ R.over = false then ({ R with refused := true }, D, 0, 9) else
    if (R.openT D (R.tl D)).2 = 10 then (R.endR, (R.openT D (R.tl D)).1, 0, 10) else
    if (R.openT D (R.tl D)).2 = 0 then R.put (R.openT D (R.tl D)).1 { e with id := R.nextID D } 0 else (R, (R.openT D (R.tl D)).1, 0, (R.openT D (R.tl D)).2)
  else R.put D { e with id := R.nextID D } (R.place D)
theorem Rl.tl_bd {R : Rl} {D : Dev} (g : R.Fine D) : 1 ≤ R.tl D ∧ R.tl D ≤ (R.newest D).1 + 1 ∧ (R.newest D).1 + 1 - R.tl D ≤ R.S - 2 := by
  have h := R.newest_bd D
  have hS := g.S2
  unfold Rl.tl Rl.tl0
  split <;> omega
theorem Rl.place_bd (R : Rl) {D : Dev} (h : D.Fine) : R.place D = -1 ∨ (0 ≤ R.place D ∧ R.place D < slotsN D.size.toNat ∧ ¬ (R.newest D).1 = 0 ∧ R.place D = R.usedN D) := by
  have := freeN_le (secL D (R.base D (((R.newest D).1 - 1) % R.S))) (slotsN D.size.toNat)
  unfold Rl.place
  split
  · exact .inl rfl
  · split
    · exact .inl rfl
    · rename_i h1 h2
      unfold Rl.usedN at *
      right
      refine ⟨by omega, by omega, h1, rfl⟩
theorem rput_ok {R : Rl} {D E : Dev} {e1 : Ev} {i at_ x : Int} (ha : R.slotAt D i = at_) (hP : D.program at_ (evEnc e1 ++ [0]) = (E, x)) (hx : x = 0) : R.put D e1 i = (R, E, e1.id, 0) := by
  unfold Rl.put
  rw [ha, hP, if_pos hx]
theorem rput_no {R : Rl} {D E : Dev} {e1 : Ev} {i at_ x : Int} (ha : R.slotAt D i = at_) (hP : D.program at_ (evEnc e1 ++ [0]) = (E, x)) (hx : ¬ x = 0) : R.put D e1 i = (R.endR, E, 0, 10) := by
  unfold Rl.put
  rw [ha, hP, if_neg hx]
set_option maxHeartbeats 1600000 in
theorem radd_ct (F : Fr) (b f bb bw cb cw : Nat) (sb sw : List Value) (R : Rl) (D : Dev) (fine : D.Fine) (rf : R.Fine D) (hcb : D.n ≤ cb) (e : Ev) (wf : e.Wf) :
    Ct Try.prog F 26 [.pointer (some ⟨b, 0, none⟩), .agg (evC e).toArray] [(some b, .cells (rlC R f) 105), (some f, .cells (devC D bb bw cb cw) 102), (some bb, .cells (vI .u8 D.bytes ++ sb) 5), (some bw, .cells (vI .i64 D.wear ++ sw) 3)] (S := Unit) (fun _ => True) (fun _ => .tuple #[.int .u16 (R.add D e).2.2.1, .int .i64 (R.add D e).2.2.2]) (fun _ => [(some b, .cells (rlC (R.add D e).1 f) 105), (some f, .cells (devC (R.add D e).2.1 bb bw cb cw) 102), (some bb, .cells (vI .u8 (R.add D e).2.1.bytes ++ sb) 5), (some bw, .cells (vI .i64 (R.add D e).2.1.wear ++ sw) 3)]) := by
 refine Ct.of 125 [(0, _), (1, _)] Try.func26 rfl rfl rfl rfl ?_
 obtain ⟨RR, hRR⟩ : ∃ RR, R.add D e = RR := ⟨_, rfl⟩
 rw [hRR]
 have k7 := rf.S2
 have k8 := rf.fS
 have k9 := fine.ok.wlen
 have k10 := rf.f0
 have k4 := rf.sz
 have k5 := fine.geo.size1
 have k6 := fine.ok.len
 obtain ⟨q, t, hnew⟩ : ∃ q t, R.newest D = (q, t) := ⟨_, _, rfl⟩
 have hq := R.newest_bd D
 rw [hnew] at hq
 dsimp only at hq
 obtain ⟨id, hide⟩ : ∃ id, R.nextID D = id := ⟨_, rfl⟩
 have hidb := R.nextID_bd fine
 rw [hide] at hidb
 obtain ⟨e1, he1⟩ : ∃ e1 : Ev, { e with id := id } = e1 := ⟨_, rfl⟩
 have hplc := R.place_bd fine
 obtain ⟨tl0, htl0d⟩ : ∃ tl0, R.tl0 D = tl0 := ⟨_, rfl⟩
 have htl0e : max t 1 = tl0 := by rw [← htl0d]; unfold Rl.tl0; rw [hnew]
 refine GC.seq (GC.region ?_)
 refine G.ld Gd.no (Ld.box rfl rfl (by first | exact Cl.one rfl | exact Cl.agg) (fun b3 => ?_))
 refine G.q Gd.no (Qt.asg rfl) rfl ?_
 refine G.q Gd.no (Qt.asg rfl) rfl ?_
 refine G.nil (GK.then (GC.seq (GC.seq (GC.region ?_))))
 refine G.q Gd.no (Qt.mv rfl) rfl ?_
 refine G.q Gd.no (Qt.nilc rfl) rfl ?_
 refine G.q Gd.no (Qt.fa0 fl105_7 rfl) rfl ?_
 refine G.q Gd.no (Qt.ldc a4 rfl (by first | exact Rdc.o rfl | exact Rdc.o (nth_vIs (by omega)) | exact Rdc.o (nth_vI (by omega)))) rfl ?_
 refine G.q Gd.no (Qt.mv rfl) rfl ?_
 apply G.orb (seg := [_, _, _, _, _, _, _])
 exact rfl
 exact rfl
 exact rfl
 exact Gd.no
 exact rfl
 exact rfl
 ·intro g5; try simp only [sB0, sB1, sB2, sB3, sB4, sB5, sB6, sB7, sB8] at g5
  refine G.q (Gd.yes rfl rfl) (Qt.mv rfl) rfl ?_
  refine G.q (Gd.yes rfl rfl) (Qt.nilc rfl) rfl ?_
  refine G.q (Gd.yes rfl rfl) (Qt.fa0 fl105_0 rfl) rfl ?_
  refine G.q (Gd.yes rfl rfl) (Qt.ldc a56 rfl (by first | exact Rdc.o rfl | exact Rdc.o (nth_vIs (by omega)) | exact Rdc.o (nth_vI (by omega)))) rfl ?_
  refine G.q (Gd.yes rfl rfl) (Qt.nilc rfl) rfl ?_
  refine G.q (Gd.yes rfl rfl) (Qt.fa0 fl102_6 rfl) rfl ?_
  refine G.q (Gd.yes rfl rfl) (Qt.ldc a4 rfl (by first | exact Rdc.o rfl | exact Rdc.o (nth_vIs (by omega)) | exact Rdc.o (nth_vI (by omega)))) rfl ?_
  refine G.nil (GK.seg (n := [_, _, _, _, _, _, _]) rfl rfl rfl (by first | exact Tks.all _ | exact Tks.skip (Tks.all _) | exact Tks.skip (Tks.skip (Tks.all _)) | exact Tks.skip (Tks.skip (Tks.skip (Tks.all _)))))
 refine G.nil (GK.then ?_)
 refine GC.condb rfl (fun c0 => ?_) (fun c0 => ?_)
 ·try simp only [sB0, sB1, sB2, sB3, sB4, sB5, sB6, sB7, sB8] at c0
  refine GC.seq (GC.region ?_)
  refine G.q Gd.no (Qt.mv rfl) rfl ?_
  refine G.ld Gd.no (Ld.call cal57 rfl rfl (Tks.c (.nil _)) (fun F' hF => rend_ct F' b f R) (fun _ _ => ?_))
  dsimp only [lCa, lNa]
  refine G.q Gd.no (Qt.asg rfl) rfl ?_
  refine G.q Gd.no (Qt.asg rfl) rfl ?_
  refine G.nil (GK.then (GC.ret (GK.thenr ?_)))
  rw [show RR = (R.endR, D, 0, 10) from by rw [← hRR]; exact if_pos (by simpa using c0)]
  refine GK.ret (rs := [.tmp 4, .tmp 5]) rfl (.tmp rfl (.tmp rfl .nil)) () ?_ ?_ (Tks.c (Tks.c (Tks.c (Tks.c (.nil _)))))
  ·trivial
  ·rfl
 ·try simp only [sB0, sB1, sB2, sB3, sB4, sB5, sB6, sB7, sB8] at c0
  have hup : ¬ (R.ended || D.down) = true := by simpa using c0
  have hdn : D.down = false := by simp at hup; exact hup.2
  refine GC.skip (GK.then (GC.seq (GC.seq (GC.region ?_))))
  refine G.q Gd.no (Qt.ldW a40 rfl Rd.o z40) rfl ?_
  refine G.ld Gd.no (Ld.call cal58 rfl rfl (.nil _) (fun F' hF => rvalid_ct F' e) (fun _ _ => ?_))
  dsimp only [lCa, lNa]
  refine G.q Gd.no (Qt.not rfl) rfl ?_
  refine G.q Gd.no (Qt.mv rfl) rfl ?_
  apply G.orb (seg := [_, _, _])
  exact rfl
  exact rfl
  exact rfl
  exact Gd.no
  exact rfl
  exact rfl
  ·intro g4; try simp only [sB0, sB1, sB2, sB3, sB4, sB5, sB6, sB7, sB8] at g4
   refine G.q (Gd.yes rfl rfl) (Qt.fa0 fl40_0 rfl) rfl ?_
   refine G.q (Gd.yes rfl rfl) (Qt.ldc a36 rfl (by first | exact Rdc.o rfl | exact Rdc.o (nth_vIs (by omega)) | exact Rdc.o (nth_vI (by omega)))) rfl ?_
   refine G.q (Gd.yes rfl rfl) (Qt.neI rfl rfl) rfl ?_
   refine G.nil (GK.seg (n := [_, _, _]) rfl rfl rfl (by first | exact Tks.all _ | exact Tks.skip (Tks.all _) | exact Tks.skip (Tks.skip (Tks.all _)) | exact Tks.skip (Tks.skip (Tks.skip (Tks.all _)))))
  refine G.nil (GK.then ?_)
  refine GC.condb rfl (fun c1 => ?_) (fun c1 => ?_)
  ·try simp only [sB0, sB1, sB2, sB3, sB4, sB5, sB6, sB7, sB8] at c1
   refine GC.seq (GC.region ?_)
   refine G.q Gd.no (Qt.asg rfl) rfl ?_
   refine G.q Gd.no (Qt.asg rfl) rfl ?_
   refine G.nil (GK.then (GC.ret (GK.thenr ?_)))
   rw [show RR = (R, D, 0, 1) from by rw [← hRR]; unfold Rl.add; rw [if_neg hup, if_pos (by simpa using c1)]]
   refine GK.ret (rs := [.tmp 4, .tmp 5]) rfl (.tmp rfl (.tmp rfl .nil)) () ?_ ?_ (Tks.c (Tks.c (Tks.c (Tks.c (.nil _)))))
   ·trivial
   ·rfl
  ·try simp only [sB0, sB1, sB2, sB3, sB4, sB5, sB6, sB7, sB8] at c1
   have hgood : ¬ (e.valid = false ∨ ¬ e.id = 0) := by simpa using c1
   have hwf1 : e1.Wf ∧ e1.valid = true := by
    have hv : e.valid = true := by cases h : e.valid with | true => rfl | false => exact absurd (Or.inl h) hgood
    simp only [Ev.valid, Bool.and_eq_true, decide_eq_true_eq] at hv
    subst he1
    exact ⟨⟨by simp only; omega, wf.time, wf.gen, wf.st, wf.sn, wf.ty, wf.d0, wf.d1, wf.d2⟩, by simp only [Ev.valid, Bool.and_eq_true, decide_eq_true_eq]; omega⟩
   refine GC.skip (GK.then (GC.seq (GC.region ?_)))
   refine G.q Gd.no (Qt.mv rfl) rfl ?_
   refine G.ld Gd.no (Ld.call cal59 rfl rfl (.nil _) (fun F' hF => rnext_ct F' _ _ _ _ _ _ R D (hF.own In.o) (hF.own In.o) fine rf _ (hF.own In.o) hcb) (fun _ _ => ?_))
   dsimp only [lCa, lNa]
   rw [hide]
   refine G.q Gd.no (Qt.asg rfl) rfl ?_
   refine G.nil (GK.then (GC.seq (GC.region ?_)))
   refine G.q Gd.no (Qt.mv rfl) rfl ?_
   refine G.ld Gd.no (Ld.call cal60 rfl rfl (.nil _) (fun F' hF => rplace_ct F' _ _ _ _ _ _ R D (hF.own In.o) (hF.own In.o) fine rf _ (hF.own In.o) hcb) (fun _ _ => ?_))
   dsimp only [lCa, lNa]
   refine G.q Gd.no (Qt.asg rfl) rfl ?_
   refine G.nil (GK.then (GC.seq (GC.seq (GC.region ?_))))
   refine G.q Gd.no (Qt.mv rfl) rfl ?_
   refine G.q Gd.no (Qt.lss rfl rfl) rfl ?_
   refine G.nil (GK.then ?_)
   refine GC.condb rfl (fun c2 => ?_) (fun c2 => ?_)
   ·try simp only [sB0, sB1, sB2, sB3, sB4, sB5, sB6, sB7, sB8] at c2
    refine GC.seq (GC.region ?_)
    refine G.q Gd.no (Qt.mv rfl) rfl ?_
    refine G.ld Gd.no (Ld.call cal61 rfl rfl (.nil _) (fun F' hF => rnewest_ct F' _ _ _ _ _ _ R D (hF.own In.o) (hF.own In.o) fine rf _ (hF.own In.o) hcb) (fun _ _ => ?_))
    dsimp only [lCa, lNa]
    rw [hnew]
    dsimp only
    refine G.q Gd.no (Qt.mv rfl) rfl ?_
    refine G.q Gd.no (Qt.ext rfl rfl) rfl ?_
    refine G.q Gd.no (Qt.ext rfl rfl) rfl ?_
    refine G.q Gd.no (Qt.asg rfl) rfl ?_
    refine G.q Gd.no (Qt.asg rfl) rfl ?_
    refine G.nil (GK.then (GC.seq (GC.region ?_)))
    refine G.q Gd.no (Qt.mv rfl) rfl ?_
    refine G.q Gd.no (Qt.max2 rfl rfl) rfl ?_
    refine G.q Gd.no (Qt.asg rfl) rfl ?_
    rw [htl0e]
    refine G.nil (GK.then (GC.seq (GC.seq (GC.region ?_))))
    refine G.q Gd.no (Qt.mv rfl) rfl ?_
    refine G.q Gd.no (Qt.add rfl rfl (by first | exact i64_id (by omega) (by omega) | exact rfl)) rfl ?_
    refine G.q Gd.no (Qt.mv rfl) rfl ?_
    refine G.q Gd.no (Qt.sub rfl rfl (by first | exact i64_id (by omega) (by omega) | exact rfl)) rfl ?_
    refine G.q Gd.no (Qt.mv rfl) rfl ?_
    refine G.q Gd.no (Qt.nilc rfl) rfl ?_
    refine G.q Gd.no (Qt.fa0 fl105_2 rfl) rfl ?_
    refine G.q Gd.no (Qt.ldc a3 rfl (by first | exact Rdc.o rfl | exact Rdc.o (nth_vIs (by omega)) | exact Rdc.o (nth_vI (by omega)))) rfl ?_
    refine G.q Gd.no (Qt.sub rfl rfl (by first | exact i64_id (by omega) (by omega) | exact rfl)) rfl ?_
    refine G.q Gd.no (Qt.gtr rfl rfl) rfl ?_
    refine G.nil (GK.then ?_)
    refine GC.condb rfl (fun c3 => ?_) (fun c3 => ?_)
    ·try simp only [sB0, sB1, sB2, sB3, sB4, sB5, sB6, sB7, sB8] at c3
     refine GC.seq (GC.seq (GC.region ?_))
     refine G.q Gd.no (Qt.mv rfl) rfl ?_
     refine G.q Gd.no (Qt.nilc rfl) rfl ?_
     refine G.q Gd.no (Qt.fa0 fl105_3 rfl) rfl ?_
     refine G.q Gd.no (Qt.ldc a4 rfl (by first | exact Rdc.o rfl | exact Rdc.o (nth_vIs (by omega)) | exact Rdc.o (nth_vI (by omega)))) rfl ?_
     refine G.q Gd.no (Qt.not rfl) rfl ?_
     refine G.nil (GK.then ?_)
     refine GC.condb rfl (fun c4 => ?_) (fun c4 => ?_)
     ·try simp only [sB0, sB1, sB2, sB3, sB4, sB5, sB6, sB7, sB8] at c4
      refine GC.seq (GC.region ?_)
      refine G.q Gd.no (Qt.mv rfl) rfl ?_
      refine G.q Gd.no (Qt.nilc rfl) rfl ?_
      refine G.q Gd.no (Qt.fa0 fl105_4 rfl) rfl ?_
      refine G.ld Gd.no (Ld.stc z4 rfl rfl rfl (Stc.o SetAt.k4) ?_)
      refine G.nil (GK.then (GC.seq (GC.region ?_)))
      refine G.q Gd.no (Qt.asg rfl) rfl ?_
      refine G.q Gd.no (Qt.asg rfl) rfl ?_
      refine G.nil (GK.then (GC.ret (GK.thenr (GK.thenr (GK.thenr ?_)))))
      rw [show RR = ({ R with refused := true }, D, 0, 9) from by rw [← hRR]; unfold Rl.add; rw [if_neg hup, if_neg hgood, if_pos (by omega), hnew, htl0d, if_pos ⟨by simp only; omega, by simpa using c4⟩]]
      refine GK.ret (rs := [.tmp 4, .tmp 5]) rfl (.tmp rfl (.tmp rfl .nil)) () ?_ ?_ (Tks.c (Tks.c (Tks.c (Tks.c (.nil _)))))
      ·trivial
      ·rfl
     ·try simp only [sB0, sB1, sB2, sB3, sB4, sB5, sB6, sB7, sB8] at c4
      have hnofull : ¬ (R.S - 2 < (q, t).1 + 1 - tl0 ∧ R.over = false) := by simp [c4]
      refine GC.skip (GK.then (GC.region ?_))
      refine G.q Gd.no (Qt.mv rfl) rfl ?_
      refine G.q Gd.no (Qt.add rfl rfl (by first | exact i64_id (by omega) (by omega) | exact rfl)) rfl ?_
      refine G.q Gd.no (Qt.asg rfl) rfl ?_
      obtain ⟨tl, htle⟩ : ∃ tl, tl0 + 1 = tl := ⟨_, rfl⟩
      have htld : R.tl D = tl := by rw [← htle]; unfold Rl.tl; rw [hnew, htl0d, if_pos (by simp only; omega)]
      have htb := R.tl_bd rf
      rw [htld, hnew] at htb
      dsimp only at htb
      rw [htle]
      refine G.nil (GK.then (GC.seq (GC.region ?_)))
      refine G.q Gd.no (Qt.mv rfl) rfl ?_
      refine G.q Gd.no (Qt.mv rfl) rfl ?_
      refine G.ld Gd.no (Ld.call cal62 rfl rfl (Tks.c (Tks.c (Tks.c (.nil _)))) (fun F' hF => ropen_ct F' b f bb bw cb cw sb sw R D (hF.own In.o) fine rf hcb hdn tl (by omega) (by omega)) (fun _ _ => ?_))
      dsimp only [lCa, lNa]
      obtain ⟨E, e0, hO⟩ : ∃ E e0, R.openT D tl = (E, e0) := ⟨_, _, rfl⟩
      rw [hO]
      dsimp only
      have fE0 := R.openT_fine fine tl
      rw [hO] at fE0
      have fE : E.Fine := fE0.1
      have lE : E.Like D := fE0.2
      have gE : R.Fine E := rf.like lE
      refine G.q Gd.no (Qt.asg rfl) rfl ?_
      refine G.nil (GK.then (GC.seq (GC.seq (GC.region ?_))))
      refine G.q Gd.no (Qt.mv rfl) rfl ?_
      refine G.q Gd.no (Qt.eqI rfl rfl) rfl ?_
      refine G.nil (GK.then ?_)
      refine GC.condb rfl (fun c5 => ?_) (fun c5 => ?_)
      ·try simp only [sB0, sB1, sB2, sB3, sB4, sB5, sB6, sB7, sB8] at c5
       refine GC.seq (GC.region ?_)
       refine G.q Gd.no (Qt.mv rfl) rfl ?_
       refine G.ld Gd.no (Ld.call cal57 rfl rfl (Tks.c (.nil _)) (fun F' hF => rend_ct F' b f R) (fun _ _ => ?_))
       dsimp only [lCa, lNa]
       refine G.q Gd.no (Qt.asg rfl) rfl ?_
       refine G.q Gd.no (Qt.asg rfl) rfl ?_
       refine G.nil (GK.then (GC.ret (GK.thenr (GK.thenr ?_))))
       have hpos : R.place D < 0 := by omega
       rw [show RR = (R.endR, E, 0, 10) from by rw [← hRR]; unfold Rl.add; rw [if_neg hup, if_neg hgood, if_pos hpos, hnew, htl0d, if_neg hnofull, htld, hO, if_pos (by assumption)]]
       refine GK.ret (rs := [.tmp 4, .tmp 5]) rfl (.tmp rfl (.tmp rfl .nil)) () ?_ ?_ (Tks.c (Tks.c (Tks.c (Tks.c (.nil _)))))
       ·trivial
       ·rfl
      ·try simp only [sB0, sB1, sB2, sB3, sB4, sB5, sB6, sB7, sB8] at c5
       refine GC.skip (GK.then (GC.seq (GC.seq (GC.region ?_))))
       refine G.q Gd.no (Qt.mv rfl) rfl ?_
       refine G.q Gd.no (Qt.neI rfl rfl) rfl ?_
       refine G.nil (GK.then ?_)
       refine GC.condb rfl (fun c6 => ?_) (fun c6 => ?_)
       ·try simp only [sB0, sB1, sB2, sB3, sB4, sB5, sB6, sB7, sB8] at c6
        refine GC.seq (GC.region ?_)
        refine G.q Gd.no (Qt.mv rfl) rfl ?_
        refine G.q Gd.no (Qt.asg rfl) rfl ?_
        refine G.q Gd.no (Qt.asg rfl) rfl ?_
        refine G.nil (GK.then (GC.ret (GK.thenr (GK.thenr ?_))))
        have hpos : R.place D < 0 := by omega
        rw [show RR = (R, E, 0, e0) from by rw [← hRR]; unfold Rl.add; rw [if_neg hup, if_neg hgood, if_pos hpos, hnew, htl0d, if_neg hnofull, htld, hO, if_neg (by assumption), if_neg (by assumption)]]
        refine GK.ret (rs := [.tmp 4, .tmp 5]) rfl (.tmp rfl (.tmp rfl .nil)) () ?_ ?_ (Tks.c (Tks.c (Tks.c (Tks.c (.nil _)))))
        ·trivial
        ·rfl
       ·try simp only [sB0, sB1, sB2, sB3, sB4, sB5, sB6, sB7, sB8] at c6
        refine GC.skip (GK.then (GC.region ?_))
        have e00 : e0 = 0 := by assumption
        have hopc := R.openT_cases fine rf hdn (x := tl) (t := tl) (by rw [if_neg (by omega)]) (by omega) (by rw [hnew]; simp only; omega) (by rw [hnew]; simp only; omega)
        rw [hO, hnew] at hopc
        dsimp only at hopc
        have hop : R.Opened D E (q + 1) tl (R.nextID D) (q % R.S) := by
         rcases hopc with ⟨_, h2⟩ | ⟨_, _, ⟨_, _, h2⟩ | ⟨h2, _⟩⟩
         ·have := congrArg (·.2) h2; simp only at this; omega
         ·exact h2
         ·omega
        have hnew2 := hop.newest
        obtain ⟨q2, hq2⟩ : ∃ q2, q + 1 = q2 := ⟨_, rfl⟩
        rw [hq2] at hnew2
        have hq2b : 1 ≤ q2 ∧ q2 ≤ 2147483649 := by omega
        obtain ⟨pl, hpl0⟩ : ∃ pl : Int, 0 = pl := ⟨_, rfl⟩
        have hplb : 0 ≤ pl ∧ pl < slotsN E.size.toNat := by rw [← hpl0, lE.2.2]; unfold slotsN; omega
        have hput : RR = R.put E e1 pl := by
         rw [← hRR]; unfold Rl.add
         rw [if_neg hup, if_neg hgood, if_pos (by omega), hnew, htl0d, if_neg hnofull, htld, hO, if_neg (by simp only; omega), if_pos e00, hide, he1, ← hpl0]
        refine G.q Gd.no (Qt.asg (v := .int .i64 pl) (by rw [← hpl0]; rfl)) rfl ?_
        refine G.nil (GK.then (GC.seq (GC.region ?_)))
        refine G.q Gd.no (Qt.ldW a40 rfl Rd.o z40) rfl ?_
        refine G.ld Gd.no (Ld.alloc rfl ze40 (by first | exact Cl.one rfl | exact Cl.agg) (fun b12 => ?_))
        refine G.ld Gd.no (Ld.stW (by exact z40) rfl rfl (evC_one _) (E := 40) (by rfl) UpdC.u ?_)
        refine G.nil (GK.then (GC.seq (GC.region ?_)))
        refine G.q Gd.no (Qt.mv rfl) rfl ?_
        refine G.q Gd.no (Qt.conv Try.underlying3 Try.underlying36 rfl (by exact u16_id (by omega) (by omega))) rfl ?_
        refine G.q Gd.no (Qt.fa0 fl40_0 rfl) rfl ?_
        refine G.ld Gd.no (Ld.stc z36 rfl rfl rfl (Stc.o (cs' := evC e1) (by rw [← he1]; exact SetAt.k0)) ?_)
        refine G.nil (GK.then (GC.seq (GC.region ?_)))
        refine G.q Gd.no (Qt.ldW a40 rfl Rd.o z40) rfl ?_
        refine G.ld Gd.no (Ld.call cal63 rfl rfl (.nil _) (fun F' hF => renc_ct F' e1 hwf1.1 hwf1.2) (fun ⟨qe, qs⟩ _ => ?_))
        dsimp only [lCa, lNa]
        refine G.q Gd.no (Qt.mv rfl) rfl ?_
        refine G.q Gd.no (Qt.ext rfl rfl) rfl ?_
        refine G.q Gd.no (Qt.ext rfl rfl) rfl ?_
        refine G.q Gd.no (Qt.asg rfl) rfl ?_
        refine G.q Gd.no (Qt.asg rfl) rfl ?_
        refine G.nil (GK.then (GC.seq (GC.region ?_)))
        refine G.q Gd.no (Qt.mv rfl) rfl ?_
        refine G.ld Gd.no (Ld.call cal61 rfl rfl (.nil _) (fun F' hF => rnewest_ct F' _ _ _ _ _ _ R E (hF.own In.o) (hF.own In.o) fE gE _ (hF.own In.o) (by rw [lE.1]; exact hcb)) (fun _ _ => ?_))
        dsimp only [lCa, lNa]
        rw [hnew2]
        dsimp only
        refine G.q Gd.no (Qt.mv rfl) rfl ?_
        refine G.q Gd.no (Qt.ext rfl rfl) rfl ?_
        refine G.q Gd.no (Qt.ext rfl rfl) rfl ?_
        refine G.q Gd.no (Qt.asg rfl) rfl ?_
        refine G.q Gd.no (Qt.asg rfl) rfl ?_
        refine G.nil (GK.then (GC.seq (GC.region ?_)))
        refine G.q Gd.no (Qt.mv rfl) rfl ?_
        refine G.q Gd.no (Qt.mv rfl) rfl ?_
        refine G.q Gd.no (Qt.sub rfl rfl (by first | exact i64_id (by omega) (by omega) | exact rfl)) rfl ?_
        have hm0 := Int.emod_nonneg (q2 - 1) (show R.S ≠ 0 by omega)
        have hm1 := Int.emod_lt_of_pos (q2 - 1) (show 0 < R.S by omega)
        have hbd := Rl.base_bd fE gE hm0 hm1
        obtain ⟨o, ho⟩ : ∃ o, R.base E ((q2 - 1) % R.S) = o := ⟨_, rfl⟩
        rw [ho] at hbd
        have hat : R.slotAt E pl = o + 11 + 17 * pl := by unfold Rl.slotAt; rw [hnew2]; dsimp only; rw [ho]
        have k11 := gE.sz
        have k12 := fE.ok.len
        have hpl3 : 17 * pl + 17 + 11 ≤ E.size := by have := hplb.2; unfold slotsN at this; omega
        refine G.q Gd.no (Qt.mv rfl) rfl ?_
        refine G.q Gd.no (Qt.nilc rfl) rfl ?_
        refine G.q Gd.no (Qt.fa0 fl105_2 rfl) rfl ?_
        refine G.q Gd.no (Qt.ldc a3 rfl (by first | exact Rdc.o rfl | exact Rdc.o (nth_vIs (by omega)) | exact Rdc.o (nth_vI (by omega)))) rfl ?_
        refine G.q Gd.no (Qt.rem rfl rfl (by omega) (by first | exact rem_nn (by omega) | exact rfl)) rfl ?_
        refine G.ld Gd.no (Ld.call cal64 rfl rfl (.nil _) (fun F' hF => rbase_ct F' _ _ _ _ _ _ R E (hF.own In.o) (hF.own In.o) fE gE _ hm0 hm1) (fun _ _ => ?_))
        dsimp only [lCa, lNa]
        rw [ho]
        refine G.q Gd.no (Qt.add rfl rfl (by exact i64_id (by omega) (by omega))) rfl ?_
        refine G.q Gd.no (Qt.mv rfl) rfl ?_
        refine G.q Gd.no (Qt.mul rfl rfl (by exact i64_id (by omega) (by omega))) rfl ?_
        refine G.q Gd.no (Qt.add rfl rfl (by exact i64_id (by omega) (by omega))) rfl ?_
        refine G.q Gd.no (Qt.asg rfl) rfl ?_
        refine G.nil (GK.then (GC.seq (GC.seq ?_)))
        refine GC.draw mixed _ (Held.tk (b := some b) Held.none) ?_
        refine GT 0 1 rfl (by kernel_rfl) rfl rfl Gd.no (Qt.mv rfl) Held.c ?_
        refine GT 1 3 rfl (by kernel_rfl) rfl rfl Gd.no (Qt.nilc rfl) Held.c ?_
        refine GT 2 7 rfl (by kernel_rfl) rfl rfl Gd.no (Qt.fa0 fl105_0 rfl) Held.c ?_
        refine GT 3 15 rfl (by kernel_rfl) rfl rfl Gd.no (Qt.ldc a56 rfl (by first | exact Rdc.o rfl | exact Rdc.o (nth_vIs (by omega)) | exact Rdc.o (nth_vI (by omega)))) Held.c ?_
        refine GT 4 31 rfl (by kernel_rfl) rfl rfl Gd.no (Qt.mv rfl) Held.c ?_
        refine GT 5 63 rfl (by kernel_rfl) rfl rfl Gd.no (Qt.mv rfl) Held.c ?_
        refine GO 6 127 (by kernel_rfl) rfl rfl Gd.no (Ld.bsl (xs := [.const (.int .u8 0)]) rfl Try.underlying53 z5 ze5 rfl rfl rfl rfl rfl (by simp [Value.oneCell']) (fun b117 => ?_))
        refine ⟨Held.c, ?_⟩
        refine GO 7 255 (by kernel_rfl) rfl rfl Gd.no (Ld.appI (k := .u8) (ob := some qe) (xs := evEnc e1) (sp := qs) (ys := [0]) Try.underlying53 z5 by5 ze5 rfl rfl rfl rfl (Vw.all Rd.o) rfl (by intro e; cases e) (by simp [evEnc]) (by simp [evEnc]) (fun b' sp' => ?_))
        refine ⟨Held.c, ?_⟩
        refine GO 8 511 (by kernel_rfl) rfl rfl Gd.no (Ld.call cal24 rfl rfl (Tks.c (Tks.c (.nil _))) (fun F' hF => rprogram_ct F' _ _ _ _ _ _ E fE.ok fE.ok2 (o + 11 + 17 * pl) (some ⟨b', 0, none⟩) _ (evEnc e1 ++ [0]) (VwF.ofPre (hF.own In.o)) (by simp [evEnc])) (fun _ _ => ?_))
        dsimp only [lCa, lNa]
        obtain ⟨E2, e2, hP⟩ : ∃ E2 e2, E.program (o + 11 + 17 * pl) (evEnc e1 ++ [0]) = (E2, e2) := ⟨_, _, rfl⟩
        have w2 := Dev.program_wear E (o + 11 + 17 * pl) (evEnc e1 ++ [0])
        rw [hP] at w2
        rw [hP]
        dsimp only
        rw [← w2]
        refine ⟨Held.c, ?_⟩
        refine GT 9 1023 rfl (by kernel_rfl) rfl rfl Gd.no (Qt.neI rfl rfl) Held.c ?_
        refine GH.done (by kernel_rfl) ?_
        refine GK.then ?_
        refine GC.condb rfl (fun c7 => ?_) (fun c7 => ?_)
        ·try simp only [sB0, sB1, sB2, sB3, sB4, sB5, sB6, sB7, sB8] at c7
         refine GC.seq (GC.region ?_)
         refine G.q Gd.no (Qt.mv rfl) rfl ?_
         refine G.ld Gd.no (Ld.call cal57 rfl rfl (Tks.c (.nil _)) (fun F' hF => rend_ct F' b f R) (fun _ _ => ?_))
         dsimp only [lCa, lNa]
         refine G.q Gd.no (Qt.asg rfl) rfl ?_
         refine G.q Gd.no (Qt.asg rfl) rfl ?_
         refine G.nil (GK.then (GC.ret (GK.thenr ?_)))
         rw [show RR = (R.endR, E2, 0, 10) from by rw [hput]; exact rput_no hat hP (by assumption)]
         refine GK.ret (rs := [.tmp 4, .tmp 5]) rfl (.tmp rfl (.tmp rfl .nil)) () ?_ ?_ (Tks.c (Tks.c (Tks.c (Tks.c (.nil _)))))
         ·trivial
         ·rfl
        ·try simp only [sB0, sB1, sB2, sB3, sB4, sB5, sB6, sB7, sB8] at c7
         refine GC.skip (GK.then (GC.seq (GC.region ?_)))
         refine G.q Gd.no (Qt.mv rfl) rfl ?_
         refine G.q Gd.no (Qt.conv Try.underlying3 Try.underlying36 rfl (by exact u16_id (by omega) (by omega))) rfl ?_
         refine G.q Gd.no (Qt.asg rfl) rfl ?_
         refine G.q Gd.no (Qt.asg rfl) rfl ?_
         refine G.nil (GK.then (GC.ret ?_))
         rw [show RR = (R, E2, e1.id, 0) from by rw [hput]; exact rput_ok hat hP (by assumption)]
         rw [show e1.id = id from by rw [← he1]]
         refine GK.ret (rs := [.tmp 4, .tmp 5]) rfl (.tmp rfl (.tmp rfl .nil)) () ?_ ?_ (Tks.c (Tks.c (Tks.c (Tks.c (.nil _)))))
         ·trivial
         ·rfl
    ·try simp only [sB0, sB1, sB2, sB3, sB4, sB5, sB6, sB7, sB8] at c3
     have hnofull : ¬ (R.S - 2 < (q, t).1 + 1 - tl0 ∧ R.over = false) := by simp only; omega
     obtain ⟨tl, htle⟩ : ∃ tl, tl0 = tl := ⟨_, rfl⟩
     have htld : R.tl D = tl := by rw [← htle]; unfold Rl.tl; rw [hnew, htl0d, if_neg (by simp only; omega)]
     have htb := R.tl_bd rf
     rw [htld, hnew] at htb
     dsimp only at htb
     rw [htle]
     refine GC.skip (GK.then (GC.seq (GC.region ?_)))
     refine G.q Gd.no (Qt.mv rfl) rfl ?_
     refine G.q Gd.no (Qt.mv rfl) rfl ?_
     refine G.ld Gd.no (Ld.call cal62 rfl rfl (Tks.c (Tks.c (Tks.c (.nil _)))) (fun F' hF => ropen_ct F' b f bb bw cb cw sb sw R D (hF.own In.o) fine rf hcb hdn tl (by omega) (by omega)) (fun _ _ => ?_))
     dsimp only [lCa, lNa]
     obtain ⟨E, e0, hO⟩ : ∃ E e0, R.openT D tl = (E, e0) := ⟨_, _, rfl⟩
     rw [hO]
     dsimp only
     have fE0 := R.openT_fine fine tl
     rw [hO] at fE0
     have fE : E.Fine := fE0.1
     have lE : E.Like D := fE0.2
     have gE : R.Fine E := rf.like lE
     refine G.q Gd.no (Qt.asg rfl) rfl ?_
     refine G.nil (GK.then (GC.seq (GC.seq (GC.region ?_))))
     refine G.q Gd.no (Qt.mv rfl) rfl ?_
     refine G.q Gd.no (Qt.eqI rfl rfl) rfl ?_
     refine G.nil (GK.then ?_)
     refine GC.condb rfl (fun c8 => ?_) (fun c8 => ?_)
     ·try simp only [sB0, sB1, sB2, sB3, sB4, sB5, sB6, sB7, sB8] at c8
      refine GC.seq (GC.region ?_)
      refine G.q Gd.no (Qt.mv rfl) rfl ?_
      refine G.ld Gd.no (Ld.call cal57 rfl rfl (Tks.c (.nil _)) (fun F' hF => rend_ct F' b f R) (fun _ _ => ?_))
      dsimp only [lCa, lNa]
      refine G.q Gd.no (Qt.asg rfl) rfl ?_
      refine G.q Gd.no (Qt.asg rfl) rfl ?_
      refine G.nil (GK.then (GC.ret (GK.thenr (GK.thenr ?_))))
      have hpos : R.place D < 0 := by omega
      rw [show RR = (R.endR, E, 0, 10) from by rw [← hRR]; unfold Rl.add; rw [if_neg hup, if_neg hgood, if_pos hpos, hnew, htl0d, if_neg hnofull, htld, hO, if_pos (by assumption)]]
      refine GK.ret (rs := [.tmp 4, .tmp 5]) rfl (.tmp rfl (.tmp rfl .nil)) () ?_ ?_ (Tks.c (Tks.c (Tks.c (Tks.c (.nil _)))))
      ·trivial
      ·rfl
     ·try simp only [sB0, sB1, sB2, sB3, sB4, sB5, sB6, sB7, sB8] at c8
      refine GC.skip (GK.then (GC.seq (GC.seq (GC.region ?_))))
      refine G.q Gd.no (Qt.mv rfl) rfl ?_
      refine G.q Gd.no (Qt.neI rfl rfl) rfl ?_
      refine G.nil (GK.then ?_)
      refine GC.condb rfl (fun c9 => ?_) (fun c9 => ?_)
      ·try simp only [sB0, sB1, sB2, sB3, sB4, sB5, sB6, sB7, sB8] at c9
       refine GC.seq (GC.region ?_)
       refine G.q Gd.no (Qt.mv rfl) rfl ?_
       refine G.q Gd.no (Qt.asg rfl) rfl ?_
       refine G.q Gd.no (Qt.asg rfl) rfl ?_
       refine G.nil (GK.then (GC.ret (GK.thenr (GK.thenr ?_))))
       have hpos : R.place D < 0 := by omega
       rw [show RR = (R, E, 0, e0) from by rw [← hRR]; unfold Rl.add; rw [if_neg hup, if_neg hgood, if_pos hpos, hnew, htl0d, if_neg hnofull, htld, hO, if_neg (by assumption), if_neg (by assumption)]]
       refine GK.ret (rs := [.tmp 4, .tmp 5]) rfl (.tmp rfl (.tmp rfl .nil)) () ?_ ?_ (Tks.c (Tks.c (Tks.c (Tks.c (.nil _)))))
       ·trivial
       ·rfl
      ·try simp only [sB0, sB1, sB2, sB3, sB4, sB5, sB6, sB7, sB8] at c9
       refine GC.skip (GK.then (GC.region ?_))
       have e00 : e0 = 0 := by assumption
       have hopc := R.openT_cases fine rf hdn (x := tl) (t := tl) (by rw [if_neg (by omega)]) (by omega) (by rw [hnew]; simp only; omega) (by rw [hnew]; simp only; omega)
       rw [hO, hnew] at hopc
       dsimp only at hopc
       have hop : R.Opened D E (q + 1) tl (R.nextID D) (q % R.S) := by
        rcases hopc with ⟨_, h2⟩ | ⟨_, _, ⟨_, _, h2⟩ | ⟨h2, _⟩⟩
        ·have := congrArg (·.2) h2; simp only at this; omega
        ·exact h2
        ·omega
       have hnew2 := hop.newest
       obtain ⟨q2, hq2⟩ : ∃ q2, q + 1 = q2 := ⟨_, rfl⟩
       rw [hq2] at hnew2
       have hq2b : 1 ≤ q2 ∧ q2 ≤ 2147483649 := by omega
       obtain ⟨pl, hpl0⟩ : ∃ pl : Int, 0 = pl := ⟨_, rfl⟩
       have hplb : 0 ≤ pl ∧ pl < slotsN E.size.toNat := by rw [← hpl0, lE.2.2]; unfold slotsN; omega
       have hput : RR = R.put E e1 pl := by
        rw [← hRR]; unfold Rl.add
        rw [if_neg hup, if_neg hgood, if_pos (by omega), hnew, htl0d, if_neg hnofull, htld, hO, if_neg (by simp only; omega), if_pos e00, hide, he1, ← hpl0]
       refine G.q Gd.no (Qt.asg (v := .int .i64 pl) (by rw [← hpl0]; rfl)) rfl ?_
       refine G.nil (GK.then (GC.seq (GC.region ?_)))
       refine G.q Gd.no (Qt.ldW a40 rfl Rd.o z40) rfl ?_
       refine G.ld Gd.no (Ld.alloc rfl ze40 (by first | exact Cl.one rfl | exact Cl.agg) (fun b12 => ?_))
       refine G.ld Gd.no (Ld.stW (by exact z40) rfl rfl (evC_one _) (E := 40) (by rfl) UpdC.u ?_)
       refine G.nil (GK.then (GC.seq (GC.region ?_)))
       refine G.q Gd.no (Qt.mv rfl) rfl ?_
       refine G.q Gd.no (Qt.conv Try.underlying3 Try.underlying36 rfl (by exact u16_id (by omega) (by omega))) rfl ?_
       refine G.q Gd.no (Qt.fa0 fl40_0 rfl) rfl ?_
       refine G.ld Gd.no (Ld.stc z36 rfl rfl rfl (Stc.o (cs' := evC e1) (by rw [← he1]; exact SetAt.k0)) ?_)
       refine G.nil (GK.then (GC.seq (GC.region ?_)))
       refine G.q Gd.no (Qt.ldW a40 rfl Rd.o z40) rfl ?_
       refine G.ld Gd.no (Ld.call cal63 rfl rfl (.nil _) (fun F' hF => renc_ct F' e1 hwf1.1 hwf1.2) (fun ⟨qe, qs⟩ _ => ?_))
       dsimp only [lCa, lNa]
       refine G.q Gd.no (Qt.mv rfl) rfl ?_
       refine G.q Gd.no (Qt.ext rfl rfl) rfl ?_
       refine G.q Gd.no (Qt.ext rfl rfl) rfl ?_
       refine G.q Gd.no (Qt.asg rfl) rfl ?_
       refine G.q Gd.no (Qt.asg rfl) rfl ?_
       refine G.nil (GK.then (GC.seq (GC.region ?_)))
       refine G.q Gd.no (Qt.mv rfl) rfl ?_
       refine G.ld Gd.no (Ld.call cal61 rfl rfl (.nil _) (fun F' hF => rnewest_ct F' _ _ _ _ _ _ R E (hF.own In.o) (hF.own In.o) fE gE _ (hF.own In.o) (by rw [lE.1]; exact hcb)) (fun _ _ => ?_))
       dsimp only [lCa, lNa]
       rw [hnew2]
       dsimp only
       refine G.q Gd.no (Qt.mv rfl) rfl ?_
       refine G.q Gd.no (Qt.ext rfl rfl) rfl ?_
       refine G.q Gd.no (Qt.ext rfl rfl) rfl ?_
       refine G.q Gd.no (Qt.asg rfl) rfl ?_
       refine G.q Gd.no (Qt.asg rfl) rfl ?_
       refine G.nil (GK.then (GC.seq (GC.region ?_)))
       refine G.q Gd.no (Qt.mv rfl) rfl ?_
       refine G.q Gd.no (Qt.mv rfl) rfl ?_
       refine G.q Gd.no (Qt.sub rfl rfl (by first | exact i64_id (by omega) (by omega) | exact rfl)) rfl ?_
       have hm0 := Int.emod_nonneg (q2 - 1) (show R.S ≠ 0 by omega)
       have hm1 := Int.emod_lt_of_pos (q2 - 1) (show 0 < R.S by omega)
       have hbd := Rl.base_bd fE gE hm0 hm1
       obtain ⟨o, ho⟩ : ∃ o, R.base E ((q2 - 1) % R.S) = o := ⟨_, rfl⟩
       rw [ho] at hbd
       have hat : R.slotAt E pl = o + 11 + 17 * pl := by unfold Rl.slotAt; rw [hnew2]; dsimp only; rw [ho]
       have k11 := gE.sz
       have k12 := fE.ok.len
       have hpl3 : 17 * pl + 17 + 11 ≤ E.size := by have := hplb.2; unfold slotsN at this; omega
       refine G.q Gd.no (Qt.mv rfl) rfl ?_
       refine G.q Gd.no (Qt.nilc rfl) rfl ?_
       refine G.q Gd.no (Qt.fa0 fl105_2 rfl) rfl ?_
       refine G.q Gd.no (Qt.ldc a3 rfl (by first | exact Rdc.o rfl | exact Rdc.o (nth_vIs (by omega)) | exact Rdc.o (nth_vI (by omega)))) rfl ?_
       refine G.q Gd.no (Qt.rem rfl rfl (by omega) (by first | exact rem_nn (by omega) | exact rfl)) rfl ?_
       refine G.ld Gd.no (Ld.call cal64 rfl rfl (.nil _) (fun F' hF => rbase_ct F' _ _ _ _ _ _ R E (hF.own In.o) (hF.own In.o) fE gE _ hm0 hm1) (fun _ _ => ?_))
       dsimp only [lCa, lNa]
       rw [ho]
       refine G.q Gd.no (Qt.add rfl rfl (by exact i64_id (by omega) (by omega))) rfl ?_
       refine G.q Gd.no (Qt.mv rfl) rfl ?_
       refine G.q Gd.no (Qt.mul rfl rfl (by exact i64_id (by omega) (by omega))) rfl ?_
       refine G.q Gd.no (Qt.add rfl rfl (by exact i64_id (by omega) (by omega))) rfl ?_
       refine G.q Gd.no (Qt.asg rfl) rfl ?_
       refine G.nil (GK.then (GC.seq (GC.seq ?_)))
       refine GC.draw mixed _ (Held.tk (b := some b) Held.none) ?_
       refine GT 0 1 rfl (by kernel_rfl) rfl rfl Gd.no (Qt.mv rfl) Held.c ?_
       refine GT 1 3 rfl (by kernel_rfl) rfl rfl Gd.no (Qt.nilc rfl) Held.c ?_
       refine GT 2 7 rfl (by kernel_rfl) rfl rfl Gd.no (Qt.fa0 fl105_0 rfl) Held.c ?_
       refine GT 3 15 rfl (by kernel_rfl) rfl rfl Gd.no (Qt.ldc a56 rfl (by first | exact Rdc.o rfl | exact Rdc.o (nth_vIs (by omega)) | exact Rdc.o (nth_vI (by omega)))) Held.c ?_
       refine GT 4 31 rfl (by kernel_rfl) rfl rfl Gd.no (Qt.mv rfl) Held.c ?_
       refine GT 5 63 rfl (by kernel_rfl) rfl rfl Gd.no (Qt.mv rfl) Held.c ?_
       refine GO 6 127 (by kernel_rfl) rfl rfl Gd.no (Ld.bsl (xs := [.const (.int .u8 0)]) rfl Try.underlying53 z5 ze5 rfl rfl rfl rfl rfl (by simp [Value.oneCell']) (fun b117 => ?_))
       refine ⟨Held.c, ?_⟩
       refine GO 7 255 (by kernel_rfl) rfl rfl Gd.no (Ld.appI (k := .u8) (ob := some qe) (xs := evEnc e1) (sp := qs) (ys := [0]) Try.underlying53 z5 by5 ze5 rfl rfl rfl rfl (Vw.all Rd.o) rfl (by intro e; cases e) (by simp [evEnc]) (by simp [evEnc]) (fun b' sp' => ?_))
       refine ⟨Held.c, ?_⟩
       refine GO 8 511 (by kernel_rfl) rfl rfl Gd.no (Ld.call cal24 rfl rfl (Tks.c (Tks.c (.nil _))) (fun F' hF => rprogram_ct F' _ _ _ _ _ _ E fE.ok fE.ok2 (o + 11 + 17 * pl) (some ⟨b', 0, none⟩) _ (evEnc e1 ++ [0]) (VwF.ofPre (hF.own In.o)) (by simp [evEnc])) (fun _ _ => ?_))
       dsimp only [lCa, lNa]
       obtain ⟨E2, e2, hP⟩ : ∃ E2 e2, E.program (o + 11 + 17 * pl) (evEnc e1 ++ [0]) = (E2, e2) := ⟨_, _, rfl⟩
       have w2 := Dev.program_wear E (o + 11 + 17 * pl) (evEnc e1 ++ [0])
       rw [hP] at w2
       rw [hP]
       dsimp only
       rw [← w2]
       refine ⟨Held.c, ?_⟩
       refine GT 9 1023 rfl (by kernel_rfl) rfl rfl Gd.no (Qt.neI rfl rfl) Held.c ?_
       refine GH.done (by kernel_rfl) ?_
       refine GK.then ?_
       refine GC.condb rfl (fun c10 => ?_) (fun c10 => ?_)
       ·try simp only [sB0, sB1, sB2, sB3, sB4, sB5, sB6, sB7, sB8] at c10
        refine GC.seq (GC.region ?_)
        refine G.q Gd.no (Qt.mv rfl) rfl ?_
        refine G.ld Gd.no (Ld.call cal57 rfl rfl (Tks.c (.nil _)) (fun F' hF => rend_ct F' b f R) (fun _ _ => ?_))
        dsimp only [lCa, lNa]
        refine G.q Gd.no (Qt.asg rfl) rfl ?_
        refine G.q Gd.no (Qt.asg rfl) rfl ?_
        refine G.nil (GK.then (GC.ret (GK.thenr ?_)))
        rw [show RR = (R.endR, E2, 0, 10) from by rw [hput]; exact rput_no hat hP (by assumption)]
        refine GK.ret (rs := [.tmp 4, .tmp 5]) rfl (.tmp rfl (.tmp rfl .nil)) () ?_ ?_ (Tks.c (Tks.c (Tks.c (Tks.c (.nil _)))))
        ·trivial
        ·rfl
       ·try simp only [sB0, sB1, sB2, sB3, sB4, sB5, sB6, sB7, sB8] at c10
        refine GC.skip (GK.then (GC.seq (GC.region ?_)))
        refine G.q Gd.no (Qt.mv rfl) rfl ?_
        refine G.q Gd.no (Qt.conv Try.underlying3 Try.underlying36 rfl (by exact u16_id (by omega) (by omega))) rfl ?_
        refine G.q Gd.no (Qt.asg rfl) rfl ?_
        refine G.q Gd.no (Qt.asg rfl) rfl ?_
        refine G.nil (GK.then (GC.ret ?_))
        rw [show RR = (R, E2, e1.id, 0) from by rw [hput]; exact rput_ok hat hP (by assumption)]
        rw [show e1.id = id from by rw [← he1]]
        refine GK.ret (rs := [.tmp 4, .tmp 5]) rfl (.tmp rfl (.tmp rfl .nil)) () ?_ ?_ (Tks.c (Tks.c (Tks.c (Tks.c (.nil _)))))
        ·trivial
        ·rfl
   ·try simp only [sB0, sB1, sB2, sB3, sB4, sB5, sB6, sB7, sB8] at c2
    have hplc := R.place_bd fine
    obtain ⟨pl, hpl0⟩ : ∃ pl : Int, R.place D = pl := ⟨_, rfl⟩
    have hplb : 0 ≤ pl ∧ pl < slotsN D.size.toNat := by omega
    have hq0 : ¬ q = 0 := by rcases hplc with h1 | ⟨_, _, h1, _⟩; omega; rw [hnew] at h1; exact h1
    obtain ⟨q2, hq2⟩ : ∃ q2, q = q2 := ⟨_, rfl⟩
    have hnew2 : R.newest D = (q2, t) := by rw [← hq2]; exact hnew
    have hq2b : 1 ≤ q2 ∧ q2 ≤ 2147483649 := by omega
    have hput : RR = R.put D e1 pl := by
     rw [← hRR]; unfold Rl.add
     rw [if_neg hup, if_neg hgood, if_neg (by omega), hide, he1, hpl0]
    obtain ⟨E, hED⟩ : ∃ E, D = E := ⟨D, rfl⟩
    have fE : E.Fine := hED ▸ fine
    have gE : R.Fine E := hED ▸ rf
    have lE : E.Like D := by rw [← hED]; exact Dev.Like.refl D
    rw [hED] at hput hnew2 hplb
    rw [hpl0, hED]
    refine GC.skip (GK.then (GC.seq (GC.region ?_)))
    refine G.q Gd.no (Qt.ldW a40 rfl Rd.o z40) rfl ?_
    refine G.ld Gd.no (Ld.alloc rfl ze40 (by first | exact Cl.one rfl | exact Cl.agg) (fun b12 => ?_))
    refine G.ld Gd.no (Ld.stW (by exact z40) rfl rfl (evC_one _) (E := 40) (by rfl) UpdC.u ?_)
    refine G.nil (GK.then (GC.seq (GC.region ?_)))
    refine G.q Gd.no (Qt.mv rfl) rfl ?_
    refine G.q Gd.no (Qt.conv Try.underlying3 Try.underlying36 rfl (by exact u16_id (by omega) (by omega))) rfl ?_
    refine G.q Gd.no (Qt.fa0 fl40_0 rfl) rfl ?_
    refine G.ld Gd.no (Ld.stc z36 rfl rfl rfl (Stc.o (cs' := evC e1) (by rw [← he1]; exact SetAt.k0)) ?_)
    refine G.nil (GK.then (GC.seq (GC.region ?_)))
    refine G.q Gd.no (Qt.ldW a40 rfl Rd.o z40) rfl ?_
    refine G.ld Gd.no (Ld.call cal63 rfl rfl (.nil _) (fun F' hF => renc_ct F' e1 hwf1.1 hwf1.2) (fun ⟨qe, qs⟩ _ => ?_))
    dsimp only [lCa, lNa]
    refine G.q Gd.no (Qt.mv rfl) rfl ?_
    refine G.q Gd.no (Qt.ext rfl rfl) rfl ?_
    refine G.q Gd.no (Qt.ext rfl rfl) rfl ?_
    refine G.q Gd.no (Qt.asg rfl) rfl ?_
    refine G.q Gd.no (Qt.asg rfl) rfl ?_
    refine G.nil (GK.then (GC.seq (GC.region ?_)))
    refine G.q Gd.no (Qt.mv rfl) rfl ?_
    refine G.ld Gd.no (Ld.call cal61 rfl rfl (.nil _) (fun F' hF => rnewest_ct F' _ _ _ _ _ _ R E (hF.own In.o) (hF.own In.o) fE gE _ (hF.own In.o) (by rw [lE.1]; exact hcb)) (fun _ _ => ?_))
    dsimp only [lCa, lNa]
    rw [hnew2]
    dsimp only
    refine G.q Gd.no (Qt.mv rfl) rfl ?_
    refine G.q Gd.no (Qt.ext rfl rfl) rfl ?_
    refine G.q Gd.no (Qt.ext rfl rfl) rfl ?_
    refine G.q Gd.no (Qt.asg rfl) rfl ?_
    refine G.q Gd.no (Qt.asg rfl) rfl ?_
    refine G.nil (GK.then (GC.seq (GC.region ?_)))
    refine G.q Gd.no (Qt.mv rfl) rfl ?_
    refine G.q Gd.no (Qt.mv rfl) rfl ?_
    refine G.q Gd.no (Qt.sub rfl rfl (by first | exact i64_id (by omega) (by omega) | exact rfl)) rfl ?_
    have hm0 := Int.emod_nonneg (q2 - 1) (show R.S ≠ 0 by omega)
    have hm1 := Int.emod_lt_of_pos (q2 - 1) (show 0 < R.S by omega)
    have hbd := Rl.base_bd fE gE hm0 hm1
    obtain ⟨o, ho⟩ : ∃ o, R.base E ((q2 - 1) % R.S) = o := ⟨_, rfl⟩
    rw [ho] at hbd
    have hat : R.slotAt E pl = o + 11 + 17 * pl := by unfold Rl.slotAt; rw [hnew2]; dsimp only; rw [ho]
    have k11 := gE.sz
    have k12 := fE.ok.len
    have hpl3 : 17 * pl + 17 + 11 ≤ E.size := by have := hplb.2; unfold slotsN at this; omega
    refine G.q Gd.no (Qt.mv rfl) rfl ?_
    refine G.q Gd.no (Qt.nilc rfl) rfl ?_
    refine G.q Gd.no (Qt.fa0 fl105_2 rfl) rfl ?_
    refine G.q Gd.no (Qt.ldc a3 rfl (by first | exact Rdc.o rfl | exact Rdc.o (nth_vIs (by omega)) | exact Rdc.o (nth_vI (by omega)))) rfl ?_
    refine G.q Gd.no (Qt.rem rfl rfl (by omega) (by first | exact rem_nn (by omega) | exact rfl)) rfl ?_
    refine G.ld Gd.no (Ld.call cal64 rfl rfl (.nil _) (fun F' hF => rbase_ct F' _ _ _ _ _ _ R E (hF.own In.o) (hF.own In.o) fE gE _ hm0 hm1) (fun _ _ => ?_))
    dsimp only [lCa, lNa]
    rw [ho]
    refine G.q Gd.no (Qt.add rfl rfl (by exact i64_id (by omega) (by omega))) rfl ?_
    refine G.q Gd.no (Qt.mv rfl) rfl ?_
    refine G.q Gd.no (Qt.mul rfl rfl (by exact i64_id (by omega) (by omega))) rfl ?_
    refine G.q Gd.no (Qt.add rfl rfl (by exact i64_id (by omega) (by omega))) rfl ?_
    refine G.q Gd.no (Qt.asg rfl) rfl ?_
    refine G.nil (GK.then (GC.seq (GC.seq ?_)))
    refine GC.draw mixed _ (Held.tk (b := some b) Held.none) ?_
    refine GT 0 1 rfl (by kernel_rfl) rfl rfl Gd.no (Qt.mv rfl) Held.c ?_
    refine GT 1 3 rfl (by kernel_rfl) rfl rfl Gd.no (Qt.nilc rfl) Held.c ?_
    refine GT 2 7 rfl (by kernel_rfl) rfl rfl Gd.no (Qt.fa0 fl105_0 rfl) Held.c ?_
    refine GT 3 15 rfl (by kernel_rfl) rfl rfl Gd.no (Qt.ldc a56 rfl (by first | exact Rdc.o rfl | exact Rdc.o (nth_vIs (by omega)) | exact Rdc.o (nth_vI (by omega)))) Held.c ?_
    refine GT 4 31 rfl (by kernel_rfl) rfl rfl Gd.no (Qt.mv rfl) Held.c ?_
    refine GT 5 63 rfl (by kernel_rfl) rfl rfl Gd.no (Qt.mv rfl) Held.c ?_
    refine GO 6 127 (by kernel_rfl) rfl rfl Gd.no (Ld.bsl (xs := [.const (.int .u8 0)]) rfl Try.underlying53 z5 ze5 rfl rfl rfl rfl rfl (by simp [Value.oneCell']) (fun b117 => ?_))
    refine ⟨Held.c, ?_⟩
    refine GO 7 255 (by kernel_rfl) rfl rfl Gd.no (Ld.appI (k := .u8) (ob := some qe) (xs := evEnc e1) (sp := qs) (ys := [0]) Try.underlying53 z5 by5 ze5 rfl rfl rfl rfl (Vw.all Rd.o) rfl (by intro e; cases e) (by simp [evEnc]) (by simp [evEnc]) (fun b' sp' => ?_))
    refine ⟨Held.c, ?_⟩
    refine GO 8 511 (by kernel_rfl) rfl rfl Gd.no (Ld.call cal24 rfl rfl (Tks.c (Tks.c (.nil _))) (fun F' hF => rprogram_ct F' _ _ _ _ _ _ E fE.ok fE.ok2 (o + 11 + 17 * pl) (some ⟨b', 0, none⟩) _ (evEnc e1 ++ [0]) (VwF.ofPre (hF.own In.o)) (by simp [evEnc])) (fun _ _ => ?_))
    dsimp only [lCa, lNa]
    obtain ⟨E2, e2, hP⟩ : ∃ E2 e2, E.program (o + 11 + 17 * pl) (evEnc e1 ++ [0]) = (E2, e2) := ⟨_, _, rfl⟩
    have w2 := Dev.program_wear E (o + 11 + 17 * pl) (evEnc e1 ++ [0])
    rw [hP] at w2
    rw [hP]
    dsimp only
    rw [← w2]
    refine ⟨Held.c, ?_⟩
    refine GT 9 1023 rfl (by kernel_rfl) rfl rfl Gd.no (Qt.neI rfl rfl) Held.c ?_
    refine GH.done (by kernel_rfl) ?_
    refine GK.then ?_
    refine GC.condb rfl (fun c11 => ?_) (fun c11 => ?_)
    ·try simp only [sB0, sB1, sB2, sB3, sB4, sB5, sB6, sB7, sB8] at c11
     refine GC.seq (GC.region ?_)
     refine G.q Gd.no (Qt.mv rfl) rfl ?_
     refine G.ld Gd.no (Ld.call cal57 rfl rfl (Tks.c (.nil _)) (fun F' hF => rend_ct F' b f R) (fun _ _ => ?_))
     dsimp only [lCa, lNa]
     refine G.q Gd.no (Qt.asg rfl) rfl ?_
     refine G.q Gd.no (Qt.asg rfl) rfl ?_
     refine G.nil (GK.then (GC.ret (GK.thenr ?_)))
     rw [show RR = (R.endR, E2, 0, 10) from by rw [hput]; exact rput_no hat hP (by assumption)]
     refine GK.ret (rs := [.tmp 4, .tmp 5]) rfl (.tmp rfl (.tmp rfl .nil)) () ?_ ?_ (Tks.c (Tks.c (Tks.c (Tks.c (.nil _)))))
     ·trivial
     ·rfl
    ·try simp only [sB0, sB1, sB2, sB3, sB4, sB5, sB6, sB7, sB8] at c11
     refine GC.skip (GK.then (GC.seq (GC.region ?_)))
     refine G.q Gd.no (Qt.mv rfl) rfl ?_
     refine G.q Gd.no (Qt.conv Try.underlying3 Try.underlying36 rfl (by exact u16_id (by omega) (by omega))) rfl ?_
     refine G.q Gd.no (Qt.asg rfl) rfl ?_
     refine G.q Gd.no (Qt.asg rfl) rfl ?_
     refine G.nil (GK.then (GC.ret ?_))
     rw [show RR = (R, E2, e1.id, 0) from by rw [hput]; exact rput_ok hat hP (by assumption)]
     rw [show e1.id = id from by rw [← he1]]
     refine GK.ret (rs := [.tmp 4, .tmp 5]) rfl (.tmp rfl (.tmp rfl .nil)) () ?_ ?_ (Tks.c (Tks.c (Tks.c (Tks.c (.nil _)))))
     ·trivial
     ·rfl
end Go.Proofs.Ytbeiciinppmekaa
