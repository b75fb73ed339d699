/-
  baseboardref09's Log: Records, nextID, place do what the models say; each contract's conditions are its premises.
-/
import Derived.Test.YtbeiciinppmekaaTb
import Derived.Test.YtbeiciinppmekaaRloga
import Derived.Test.YtbeiciinppmekaaSx12
import Derived.Test.YtbeiciinppmekaaProg
namespace Go.Proofs.Ytbeiciinppmekaa
open Go Go.Sx Go.Proofs
set_option maxRecDepth 100000
set_option linter.unusedSimpArgs false
set_option linter.unusedVariables false
theorem Rl.hdr_bd {R : Rl} {D : Dev} (j : Int) : R.hdr D j = (0, 0) ∨ (1 ≤ (R.hdr D j).1 ∧ (R.hdr D j).1 ≤ 2147483648 ∧ ((R.hdr D j).1 - 1) % R.S = j ∧ 1 ≤ (R.hdr D j).2 ∧ (R.hdr D j).2 ≤ (R.hdr D j).1 ∧ (R.hdr D j).1 - (R.hdr D j).2 ≤ R.S - 2) := by
  unfold Rl.hdr
  by_cases h : Hd.ok (secL D (R.base D j)) R.S j = true
  · rw [if_pos h]
    simp only [Hd.ok, decide_eq_true_eq] at h
    right
    simp only
    omega
  · rw [if_neg h]; exact .inl rfl
theorem Rl.newestN_bd {R : Rl} {D : Dev} (k : Nat) : (R.newestN D k = (0, 0) ∨ ∃ j : Nat, j < k ∧ R.newestN D k = R.hdr D j ∧ 1 ≤ (R.hdr D j).1) ∧ ∀ j : Nat, j < k → (R.hdr D j).1 ≤ (R.newestN D k).1 := by
  induction k with
  | zero => exact ⟨.inl rfl, fun j h => by omega⟩
  | succ k ih =>
    obtain ⟨i1, i2⟩ := ih
    rw [R.newestN_succ D k]
    have hq : 0 ≤ (R.newestN D k).1 := by
      rcases i1 with i1 | ⟨j, _, i1, i3⟩
      · rw [i1]; decide
      · rw [i1]; omega
    by_cases h : (R.newestN D k).1 < (R.hdr D k).1
    · rw [if_pos h]
      refine ⟨.inr ⟨k, by omega, rfl, by omega⟩, fun j hj => ?_⟩
      by_cases e : j < k
      · have := i2 j e; omega
      · rw [show j = k by omega]; exact Int.le_refl _
    · rw [if_neg h]
      refine ⟨?_, fun j hj => ?_⟩
      · rcases i1 with i1 | ⟨j, h1, h2⟩
        · exact .inl i1
        · exact .inr ⟨j, by omega, h2⟩
      · by_cases e : j < k
        · exact i2 j e
        · rw [show j = k by omega]; omega
theorem Rl.newest_bd (R : Rl) (D : Dev) : 0 ≤ (R.newest D).1 ∧ (R.newest D).1 ≤ 2147483648 ∧ 0 ≤ (R.newest D).2 ∧ (R.newest D).2 ≤ (R.newest D).1 ∧ (1 ≤ (R.newest D).1 → 1 ≤ (R.newest D).2 ∧ (R.newest D).1 - (R.newest D).2 ≤ R.S - 2) := by
  rcases (R.newestN_bd (D := D) R.S.toNat).1 with h | ⟨j, _, h, h1⟩
  · rw [show R.newest D = (0, 0) from h]; exact ⟨by simp, by simp, by simp, by simp, fun e => by simp at e⟩
  · rw [show R.newest D = R.hdr D j from h]
    rcases R.hdr_bd (D := D) j with h2 | h2
    · rw [h2] at h1; simp at h1
    · omega
/-- The records of the sector of sequence number s. -/
def Rl.at_ (R : Rl) (D : Dev) (s : Int) : List Ev := if (R.hdr D ((s - 1) % R.S)).1 = s then R.ofS D ((s - 1) % R.S) else []
def Rl.recsN (R : Rl) (D : Dev) (t : Int) (k : Nat) : List Ev := (List.range k).flatMap fun i => R.at_ D (t + (i : Nat))
theorem Rl.recsN_succ (R : Rl) (D : Dev) (t : Int) (k : Nat) : R.recsN D t (k + 1) = R.recsN D t k ++ R.at_ D (t + (k : Nat)) := by
  unfold Rl.recsN
  rw [List.range_succ, List.flatMap_append, List.flatMap_singleton]
def Rl.records (R : Rl) (D : Dev) : List Ev := if R.ended then [] else if 1 ≤ (R.newest D).2 then R.recsN D (R.newest D).2 ((R.newest D).1 + 1 - (R.newest D).2).toNat else []
theorem Rl.ofS_len (R : Rl) {D : Dev} (h : D.Fine) (j : Int) : (R.ofS D j).length ≤ 65536 := by
  have h1 := ofN_len (secL D (R.base D j)) (slotsN D.size.toNat)
  have h2 := h.geo.size1
  unfold Rl.ofS slotsN at *
  omega
theorem Rl.at_len (R : Rl) {D : Dev} (h : D.Fine) (s : Int) : (R.at_ D s).length ≤ 65536 := by
  unfold Rl.at_
  split
  · exact R.ofS_len h _
  · simp
theorem Rl.recsN_len (R : Rl) {D : Dev} (h : D.Fine) (t : Int) (k : Nat) : (R.recsN D t k).length ≤ k * 65536 := by
  induction k with
  | zero => simp [Rl.recsN]
  | succ k ih =>
    have := R.at_len h (t + (k : Nat))
    rw [R.recsN_succ, List.length_append, Nat.add_mul, Nat.one_mul]
    omega
/-- The ID of the next record. -/
def Rl.nextID (R : Rl) (D : Dev) : Int :=
  if (R.newest D).1 = 0 then 1 else
  if (R.ofS D (((R.newest D).1 - 1) % R.S)).length = 0 then le2 (secL D (R.base D (((R.newest D).1 - 1) % R.S))) 8 else
  behind ((R.ofS D (((R.newest D).1 - 1) % R.S)).getD ((R.ofS D (((R.newest D).1 - 1) % R.S)).length - 1) Ev.zero).id
/-- The least n such that the slots from n on are free. -/
def freeN (xs : List Int) : Nat → Nat
  | 0 => 0
  | n + 1 => if blankL (slotL xs n) then freeN xs n else n + 1
theorem freeN_le (xs : List Int) : ∀ n, freeN xs n ≤ n
  | 0 => Nat.le_refl _
  | n + 1 => by
    have := freeN_le xs n
    unfold freeN
    split <;> omega
def Rl.usedN (R : Rl) (D : Dev) : Nat := freeN (secL D (R.base D (((R.newest D).1 - 1) % R.S))) (slotsN D.size.toNat)
def Rl.place (R : Rl) (D : Dev) : Int := if (R.newest D).1 = 0 then -1 else if R.usedN D = slotsN D.size.toNat then -1 else R.usedN D
theorem slotR_free (sl : List Int) : (slotR sl).2.2 = blankL sl := by
  unfold slotR
  split
  · rename_i h; rw [h]
  · rename_i h
    have : blankL sl = false := by simpa using h
    rw [this]
    split <;> rfl
theorem slotE_wf {sl : List Int} (hb : Bytes sl) {e : Ev} (h : slotE sl = some e) : e.Wf ∧ e.valid = true ∧ 1 ≤ e.id ∧ e.id ≤ 65534 := by
  unfold slotE slotR at h
  by_cases h2 : blankL sl = true
  · rw [if_pos h2] at h; simp at h
  · rw [if_neg h2] at h
    by_cases h3 : ¬ ix sl 16 = 0
    · rw [if_pos h3] at h; simp at h
    · rw [if_neg h3] at h
      by_cases h1 : (evDec (sl.take 16)).2 = 0 ∧ ¬ (evDec (sl.take 16)).1.id = 0
      · rw [if_pos (by simpa using h1)] at h
        simp only [Option.some.injEq] at h
        subst h
        have hw := evDec_wf (hb.take 16)
        have hv := evDec_valid h1.1
        refine ⟨hw, hv, ?_⟩
        have h4 := hv
        simp only [Ev.valid, Bool.and_eq_true, decide_eq_true_eq] at h4
        have := hw.id
        omega
      · rw [if_neg (by simpa using h1)] at h; cases h
theorem ofN_wf {xs : List Int} (hb : Bytes xs) {k : Nat} {e : Ev} (h : e ∈ ofN xs k) : e.Wf ∧ e.valid = true ∧ 1 ≤ e.id ∧ e.id ≤ 65534 := by
  unfold ofN at h
  obtain ⟨i, _, hi⟩ := List.mem_filterMap.1 h
  exact slotE_wf (slotL_bytes hb i) hi
theorem Rl.ofS_wf {R : Rl} {D : Dev} (h : D.Fine) {j : Int} {e : Ev} (he : e ∈ R.ofS D j) : e.Wf ∧ e.valid = true ∧ 1 ≤ e.id ∧ e.id ≤ 65534 := ofN_wf (secL_bytes h _) he
theorem Rl.hdr_id {R : Rl} {D : Dev} {j : Int} (h : 1 ≤ (R.hdr D j).1) : 1 ≤ le2 (secL D (R.base D j)) 8 ∧ le2 (secL D (R.base D j)) 8 ≤ 65534 := by
  unfold Rl.hdr at h
  by_cases h1 : Hd.ok (secL D (R.base D j)) R.S j = true
  · simp only [Hd.ok, decide_eq_true_eq] at h1
    omega
  · rw [if_neg h1] at h; simp at h
theorem Rl.newest_j {R : Rl} {D : Dev} (h : 1 ≤ (R.newest D).1) : R.hdr D (((R.newest D).1 - 1) % R.S) = R.newest D := by
  rcases (R.newestN_bd (D := D) R.S.toNat).1 with h2 | ⟨j, _, h2, h3⟩
  · rw [show R.newest D = (0, 0) from h2] at h; simp at h
  · rw [show R.newest D = R.hdr D j from h2]
    rcases R.hdr_bd (D := D) j with h4 | h4
    · rw [h4] at h3; simp at h3
    · rw [h4.2.2.1]
theorem behind_bd {i : Int} (h0 : 1 ≤ i) (h1 : i ≤ 65534) : 1 ≤ behind i ∧ behind i ≤ 65534 := by unfold behind; split <;> omega
theorem Rl.nextID_bd {R : Rl} {D : Dev} (h : D.Fine) : 1 ≤ R.nextID D ∧ R.nextID D ≤ 65534 := by
  have hq := R.newest_bd D
  unfold Rl.nextID
  split
  · decide
  · rename_i h0
    split
    · refine R.hdr_id ?_
      rw [R.newest_j (by omega)]; omega
    · rename_i h1
      have hm : (R.ofS D (((R.newest D).1 - 1) % R.S)).getD ((R.ofS D (((R.newest D).1 - 1) % R.S)).length - 1) Ev.zero ∈ R.ofS D (((R.newest D).1 - 1) % R.S) := by
        rw [List.getD_eq_getElem?_getD, List.getElem?_eq_getElem (by omega), Option.getD_some]
        exact List.getElem_mem _
      have := R.ofS_wf h hm
      exact behind_bd this.2.2.1 this.2.2.2
theorem evs_id {rs : List Ev} {sp : List Value} {k : Nat} {u : Ev} (h : rs[k]? = some u) : (rs.flatMap evC ++ sp)[k * 10 + 0]? = some (.int .u16 u.id) := by
  rw [nth_flatMap evC_len h (by omega)]; rfl
theorem rrecords_ct (F : Fr) (b f bb bw cb cw : Nat) (R : Rl) (D : Dev) (hb : F.h b = some (Blk.cells (rlC R f) 105).toObj) (hf : F.h f = some (Blk.cells (devC D bb bw cb cw) 102).toObj) (fine : D.Fine) (rf : R.Fine D) (sb : List Value) (hbb : F.h bb = some (Blk.cells (vI .u8 D.bytes ++ sb) 5).toObj) (hcb : D.n ≤ cb) (hS : R.S ≤ 1048576) :
    Ct Try.prog F 67 [.pointer (some ⟨b, 0, none⟩)] [] (S := Option Nat × Nat × List Value) (fun x => (R.records D).length * 10 + x.2.2.length = x.2.1 * 10 ∧ (x.1 = none → R.records D = [] ∧ x.2.2 = [])) (fun x => .slice (oA x.1) (R.records D).length x.2.1) (fun x => [(x.1, .cells ((R.records D).flatMap evC ++ x.2.2) 40)]) := by
 have k7 := rf.S2
 have k8 := rf.fS
 have k9 := fine.ok.wlen
 have k10 := rf.f0
 have k4 := rf.sz
 have k5 := fine.geo.size1
 obtain ⟨q, t, hnew⟩ : ∃ q t, R.newest D = (q, t) := ⟨_, _, rfl⟩
 have hq := R.newest_bd D
 rw [hnew] at hq
 dsimp only at hq
 obtain ⟨hq0, hq1, hq2, hq3, hq4⟩ := hq
 refine Ct.of 51 [(0, _)] Try.func67 rfl rfl rfl rfl ?_
 refine GC.seq (GC.region ?_)
 refine G.q Gd.no (Qt.asg rfl) rfl ?_
 refine G.nil (GK.then (GC.seq (GC.seq (GC.region ?_))))
 refine G.q Gd.no (Qt.mv rfl) rfl ?_
 refine G.q Gd.no (Qt.nilc rfl) rfl ?_
 refine G.q Gd.no (Qt.fa0 fl105_7 rfl) rfl ?_
 refine G.q Gd.no (Qt.ldc a4 rfl (by first | exact Rdc.o rfl | exact Rdc.o (nth_vIs (by omega)) | exact Rdc.o (nth_vI (by omega)) | exact Rdc.f hb rfl | exact Rdc.f hf rfl)) rfl ?_
 refine G.nil (GK.then ?_)
 refine GC.condb rfl (fun c0 => ?_) (fun c0 => ?_)
 ·try simp only [sB0, sB1, sB2, sB3, sB4, sB5, sB6, sB7, sB8] at c0
  refine GC.seq (GC.region ?_)
  refine G.q Gd.no (Qt.asg rfl) rfl ?_
  refine G.nil (GK.then (GC.ret (GK.thenr ?_)))
  rw [show R.records D = [] from if_pos c0]
  refine GK.addNil (.cells (([] : List Ev).flatMap evC ++ []) 40) ?_
  refine GK.ret (rs := [.tmp 2]) rfl (.tmp rfl .nil) (none, 0, []) ?_ ?_ (Tks.c (.nil _))
  ·exact ⟨rfl, fun _ => ⟨rfl, rfl⟩⟩
  ·rfl
 ·try simp only [sB0, sB1, sB2, sB3, sB4, sB5, sB6, sB7, sB8] at c0
  refine GC.skip (GK.then (GC.seq (GC.region ?_)))
  refine G.q Gd.no (Qt.mv rfl) rfl ?_
  refine G.ld Gd.no (Ld.call cal61 rfl rfl (.nil _) (fun F' hF => rnewest_ct F' _ _ _ _ _ _ R D (hF.fr hb) (hF.fr hf) fine rf _ (hF.fr hbb) hcb) (fun _ _ => ?_))
  dsimp only [lCa, lNa]
  rw [hnew]
  dsimp only
  refine G.q Gd.no (Qt.mv rfl) rfl ?_
  refine G.q Gd.no (Qt.ext rfl rfl) rfl ?_
  refine G.q Gd.no (Qt.ext rfl rfl) rfl ?_
  refine G.q Gd.no (Qt.asg rfl) rfl ?_
  refine G.q Gd.no (Qt.asg rfl) rfl ?_
  refine G.nil (GK.then (GC.seq (GC.region ?_)))
  refine G.q Gd.no (Qt.asg rfl) rfl ?_
  refine G.nil (GK.then (GC.seq (GC.seq (GC.region ?_))))
  refine G.q Gd.no (Qt.mv rfl) rfl ?_
  refine G.q Gd.no (Qt.asg rfl) rfl ?_
  refine G.nil (GK.then (GC.block ?_))
  refine GC.addNil (.cells (([] : List Ev).flatMap evC ++ []) 40) ?_
  refine GC.loop (S := Nat × Option Nat × Nat × List Value) (fun x => t + x.1 ≤ q + 1 ∧ (t ≤ 0 → x.1 = 0) ∧ (R.recsN D t x.1).length * 10 + x.2.2.2.length = x.2.2.1 * 10 ∧ (x.2.1 = none → R.recsN D t x.1 = [] ∧ x.2.2.2 = [])) (fun x => (q + 1 - t).toNat - x.1)
   (fun x => [(0, .pointer (some ⟨b, 0, none⟩)), (3, .int .i64 q), (5, .slice (oA x.2.1) (R.recsN D t x.1).length x.2.2.1), (6, .int .i64 (t + x.1))]) (fun x => [(x.2.1, .cells ((R.recsN D t x.1).flatMap evC ++ x.2.2.2) 40)]) (0, none, 0, []) ?_ ?_ ?_ ?_
  ·exact ⟨by simp; omega, fun _ => rfl, rfl, fun _ => ⟨rfl, rfl⟩⟩
  ·exact ⟨rfl, rfl, rfl, by rw [show t + ((0 : Nat) : Int) = t by omega]; rfl, trivial⟩
  ·exact ⟨_, (Tks.c (.nil _))⟩
  intro ⟨i, ob, cc, sp⟩ ⟨h2, h9, h3, h4⟩
  simp only at h2 h9 h3 h4
  have hle := R.recsN_len fine t i
  refine GC.seq (GC.seq (GC.region ?_))
  refine G.q Gd.no (Qt.mv rfl) rfl ?_
  refine G.q Gd.no (Qt.geq rfl rfl) rfl ?_
  refine G.q Gd.no (Qt.mv rfl) rfl ?_
  apply G.andb (seg := [_, _, _])
  exact rfl
  exact rfl
  exact rfl
  exact Gd.no
  exact rfl
  exact rfl
  ·intro g3; try simp only [sB0, sB1, sB2, sB3, sB4, sB5, sB6, sB7, sB8] at g3
   refine G.q (Gd.yes rfl rfl) (Qt.mv rfl) rfl ?_
   refine G.q (Gd.yes rfl rfl) (Qt.mv rfl) rfl ?_
   refine G.q (Gd.yes rfl rfl) (Qt.leq rfl rfl) rfl ?_
   refine G.nil (GK.seg (n := [_, _, _]) rfl rfl rfl (by first | exact Tks.all _ | exact Tks.skip (Tks.all _) | exact Tks.skip (Tks.skip (Tks.all _)) | exact Tks.skip (Tks.skip (Tks.skip (Tks.all _)))))
  refine G.nil (GK.then ?_)
  refine GC.condb rfl (fun c1 => ?_) (fun c1 => ?_)
  ·try simp only [sB0, sB1, sB2, sB3, sB4, sB5, sB6, sB7, sB8] at c1
   have hm0 := Int.emod_nonneg (t + i - 1) (show R.S ≠ 0 by omega)
   have hm1 := Int.emod_lt_of_pos (t + i - 1) (show 0 < R.S by omega)
   have hsu := R.recsN_succ D t i
   have hi2 : i ≤ 1048576 := by omega
   have hle2 : i * 65536 ≤ 1048576 * 65536 := Nat.mul_le_mul_right _ hi2
   obtain ⟨j, hj⟩ : ∃ j, (t + i - 1) % R.S = j := ⟨_, rfl⟩
   have hat : R.at_ D (t + i) = if (R.hdr D j).1 = t + i then R.ofS D j else [] := by unfold Rl.at_; rw [hj]
   have hol := R.ofS_len fine j
   refine GC.skip (GK.then (GC.seq (GC.block (GC.seq (GC.region ?_)))))
   refine G.q Gd.no (Qt.mv rfl) rfl ?_
   refine G.q Gd.no (Qt.sub rfl rfl (by first | exact i64_id (by omega) (by omega) | exact rfl)) rfl ?_
   refine G.q Gd.no (Qt.mv rfl) rfl ?_
   refine G.q Gd.no (Qt.nilc rfl) rfl ?_
   refine G.q Gd.no (Qt.fa0 fl105_2 rfl) rfl ?_
   refine G.q Gd.no (Qt.ldc a3 rfl (by first | exact Rdc.o rfl | exact Rdc.o (nth_vIs (by omega)) | exact Rdc.o (nth_vI (by omega)) | exact Rdc.f hb rfl | exact Rdc.f hf rfl)) rfl ?_
   refine G.q Gd.no (Qt.rem rfl rfl (by omega) (by first | exact rem_nn (by omega) | exact rfl)) rfl ?_
   rw [hj]
   refine G.q Gd.no (Qt.asg rfl) rfl ?_
   rw [hj] at hm0 hm1
   refine G.nil (GK.then (GC.seq (GC.region ?_)))
   refine G.q Gd.no (Qt.mv rfl) rfl ?_
   refine G.q Gd.no (Qt.mv rfl) rfl ?_
   refine G.ld Gd.no (Ld.call cal83 rfl rfl (.nil _) (fun F' hF => rheader_ct F' _ _ _ _ _ _ R D (hF.fr hb) (hF.fr hf) fine rf _ (hF.fr hbb) hcb _ hm0 hm1) (fun _ _ => ?_))
   dsimp only [lCa, lNa]
   refine G.q Gd.no (Qt.mv rfl) rfl ?_
   refine G.q Gd.no (Qt.ext rfl rfl) rfl ?_
   refine G.q Gd.no (Qt.ext rfl rfl) rfl ?_
   refine G.q Gd.no (Qt.asg rfl) rfl ?_
   refine G.q Gd.no (Qt.asg rfl) rfl ?_
   refine G.nil (GK.then (GC.seq (GC.region ?_)))
   refine G.q Gd.no (Qt.mv rfl) rfl ?_
   refine G.q Gd.no (Qt.mv rfl) rfl ?_
   refine G.q Gd.no (Qt.eqI rfl rfl) rfl ?_
   refine G.nil (GK.then ?_)
   refine GC.condb rfl (fun c2 => ?_) (fun c2 => ?_)
   ·try simp only [sB0, sB1, sB2, sB3, sB4, sB5, sB6, sB7, sB8] at c2
    refine GC.region ?_
    refine G.q Gd.no (Qt.mv rfl) rfl ?_
    refine G.q Gd.no (Qt.mv rfl) rfl ?_
    refine G.q Gd.no (Qt.mv rfl) rfl ?_
    refine G.ld Gd.no (Ld.call cal79 rfl rfl (.nil _) (fun F' hF => rof_ct F' _ _ _ _ _ _ R D (hF.fr hb) (hF.fr hf) fine rf _ (hF.fr hbb) hcb _ hm0 hm1) (fun ⟨ob2, cq, sp2⟩ ⟨hq5, hq6, hq7⟩ => ?_))
    dsimp only [lCa, lNa]
    refine G.ld Gd.no (Ld.appO (f := evC) (ys := R.ofS D j) Try.underlying29 z40 by40 ze40 (by first | exact Cl.one rfl | exact Cl.agg) rfl rfl evC_len evC_one rfl rfl (fun b e => by subst e; exact Vw.pre Rd.o) (fun e => ⟨(hq6 e).1, (hq6 e).2.2⟩) hq7 h3 h4 (by omega) (by decide) (by omega) (fun ob' c' sp' hcap hnl _ => ?_))
    refine G.q Gd.no (Qt.asg rfl) rfl ?_
    refine G.nil (GK.blockn (GK.then (GC.region ?_)))
    refine G.q Gd.no (Qt.mv rfl) rfl ?_
    refine G.q Gd.no (Qt.add rfl rfl (by first | exact i64_id (by omega) (by omega) | exact rfl)) rfl ?_
    refine G.q Gd.no (Qt.asg rfl) rfl ?_
    refine G.nil ?_
    rw [if_pos c2] at hat
    rw [hat] at hsu
    rw [← hsu, show t + (i : Int) + 1 = t + ((i + 1 : Nat) : Int) by omega]
    rw [← hsu] at hcap hnl
    refine GK.head (i + 1, ob', c', sp') ?_ ?_ ?_ ?_
    ·simp only; omega
    ·exact ⟨by simp only; omega, fun e => by omega, hcap, hnl⟩
    ·exact ⟨rfl, rfl, rfl, rfl, trivial⟩
    ·exact ⟨_, (Tks.c (.nil _))⟩
   ·try simp only [sB0, sB1, sB2, sB3, sB4, sB5, sB6, sB7, sB8] at c2
    refine GC.skip (GK.blockn (GK.then (GC.region ?_)))
    refine G.q Gd.no (Qt.mv rfl) rfl ?_
    refine G.q Gd.no (Qt.add rfl rfl (by first | exact i64_id (by omega) (by omega) | exact rfl)) rfl ?_
    refine G.q Gd.no (Qt.asg rfl) rfl ?_
    refine G.nil ?_
    rw [if_neg c2] at hat
    rw [hat, List.append_nil] at hsu
    rw [← hsu, show t + (i : Int) + 1 = t + ((i + 1 : Nat) : Int) by omega]
    rw [← hsu] at h3 h4
    refine GK.head (i + 1, ob, cc, sp) ?_ ?_ ?_ ?_
    ·simp only; omega
    ·exact ⟨by simp only; omega, fun e => by omega, h3, h4⟩
    ·exact ⟨rfl, rfl, rfl, rfl, trivial⟩
    ·exact ⟨_, (Tks.c (.nil _))⟩
  ·try simp only [sB0, sB1, sB2, sB3, sB4, sB5, sB6, sB7, sB8] at c1
   refine GC.exit (GK.thene (GK.thene (GK.blocke (GK.then (GC.seq (GC.region ?_))))))
   refine G.q Gd.no (Qt.mv rfl) rfl ?_
   refine G.q Gd.no (Qt.asg rfl) rfl ?_
   refine G.nil (GK.then (GC.ret ?_))
   have hrec : R.records D = R.recsN D t i := by unfold Rl.records; rw [if_neg (by simp [c0]), hnew]; dsimp only; by_cases ht : 1 ≤ t; rw [if_pos ht, show (q + 1 - t).toNat = i by omega]; rw [if_neg ht, show i = 0 by omega]; rfl
   rw [hrec]
   refine GK.ret (rs := [.tmp 2]) rfl (.tmp rfl .nil) (ob, cc, sp) ?_ ?_ (Tks.c (.nil _))
   ·exact ⟨h3, h4⟩
   ·rfl
theorem rnext_ct (F : Fr) (b f bb bw cb cw : Nat) (R : Rl) (D : Dev) (hb : F.h b = some (Blk.cells (rlC R f) 105).toObj) (hf : F.h f = some (Blk.cells (devC D bb bw cb cw) 102).toObj) (fine : D.Fine) (rf : R.Fine D) (sb : List Value) (hbb : F.h bb = some (Blk.cells (vI .u8 D.bytes ++ sb) 5).toObj) (hcb : D.n ≤ cb) :
    Ct Try.prog F 59 [.pointer (some ⟨b, 0, none⟩)] [] (S := Unit) (fun _ => True) (fun _ => .int .i64 (R.nextID D)) (fun _ => []) := by
 have k7 := rf.S2
 have k8 := rf.fS
 have k9 := fine.ok.wlen
 have k10 := rf.f0
 have k4 := rf.sz
 have k5 := fine.geo.size1
 obtain ⟨q, t, hnew⟩ : ∃ q t, R.newest D = (q, t) := ⟨_, _, rfl⟩
 have hq := R.newest_bd D
 rw [hnew] at hq
 dsimp only at hq
 obtain ⟨hq0, hq1, hq2, hq3, hq4⟩ := hq
 refine Ct.of 58 [(0, _)] Try.func59 rfl rfl rfl rfl ?_
 refine GC.seq (GC.region ?_)
 refine G.q Gd.no (Qt.asg rfl) rfl ?_
 refine G.nil (GK.then (GC.seq (GC.region ?_)))
 refine G.q Gd.no (Qt.mv rfl) rfl ?_
 refine G.ld Gd.no (Ld.call cal61 rfl rfl (.nil _) (fun F' hF => rnewest_ct F' _ _ _ _ _ _ R D (hF.fr hb) (hF.fr hf) fine rf _ (hF.fr hbb) hcb) (fun _ _ => ?_))
 dsimp only [lCa, lNa]
 rw [hnew]
 dsimp only
 refine G.q Gd.no (Qt.mv rfl) rfl ?_
 refine G.q Gd.no (Qt.ext rfl rfl) rfl ?_
 refine G.q Gd.no (Qt.ext rfl rfl) rfl ?_
 refine G.q Gd.no (Qt.asg rfl) rfl ?_
 refine G.q Gd.no (Qt.asg rfl) rfl ?_
 refine G.nil (GK.then (GC.seq (GC.seq (GC.region ?_))))
 refine G.q Gd.no (Qt.mv rfl) rfl ?_
 refine G.q Gd.no (Qt.eqI rfl rfl) rfl ?_
 refine G.nil (GK.then ?_)
 refine GC.condb rfl (fun c0 => ?_) (fun c0 => ?_)
 ·try simp only [sB0, sB1, sB2, sB3, sB4, sB5, sB6, sB7, sB8] at c0
  refine GC.seq (GC.region ?_)
  refine G.q Gd.no (Qt.asg rfl) rfl ?_
  refine G.nil (GK.then (GC.ret (GK.thenr ?_)))
  rw [show R.nextID D = 1 from if_pos (by rw [hnew]; exact c0)]
  refine GK.ret (rs := [.tmp 2]) rfl (.tmp rfl .nil) () ?_ ?_ (.nil _)
  ·trivial
  ·rfl
 ·try simp only [sB0, sB1, sB2, sB3, sB4, sB5, sB6, sB7, sB8] at c0
  have hm0 := Int.emod_nonneg (q - 1) (show R.S ≠ 0 by omega)
  have hm1 := Int.emod_lt_of_pos (q - 1) (show 0 < R.S by omega)
  obtain ⟨j, hj⟩ : ∃ j, (q - 1) % R.S = j := ⟨_, rfl⟩
  rw [hj] at hm0 hm1
  obtain ⟨rs, hrs⟩ : ∃ rs, R.ofS D j = rs := ⟨_, rfl⟩
  have hid : R.nextID D = if rs.length = 0 then le2 (secL D (R.base D j)) 8 else behind (rs.getD (rs.length - 1) Ev.zero).id := by unfold Rl.nextID; rw [hnew]; dsimp only; rw [if_neg c0, hj, hrs]
  have hwf : ∀ e ∈ rs, e.Wf ∧ e.valid = true ∧ 1 ≤ e.id ∧ e.id ≤ 65534 := by rw [← hrs]; exact fun e he => R.ofS_wf fine he
  have hol := R.ofS_len fine j
  rw [hrs] at hol
  refine GC.skip (GK.then (GC.seq (GC.region ?_)))
  refine G.q Gd.no (Qt.mv rfl) rfl ?_
  refine G.q Gd.no (Qt.sub rfl rfl (by first | exact i64_id (by omega) (by omega) | exact rfl)) rfl ?_
  refine G.q Gd.no (Qt.mv rfl) rfl ?_
  refine G.q Gd.no (Qt.nilc rfl) rfl ?_
  refine G.q Gd.no (Qt.fa0 fl105_2 rfl) rfl ?_
  refine G.q Gd.no (Qt.ldc a3 rfl (by first | exact Rdc.o rfl | exact Rdc.o (nth_vIs (by omega)) | exact Rdc.o (nth_vI (by omega)) | exact Rdc.f hb rfl | exact Rdc.f hf rfl)) rfl ?_
  refine G.q Gd.no (Qt.rem rfl rfl (by omega) (by first | exact rem_nn (by omega) | exact rfl)) rfl ?_
  rw [hj]
  refine G.q Gd.no (Qt.asg rfl) rfl ?_
  refine G.nil (GK.then (GC.seq (GC.region ?_)))
  refine G.q Gd.no (Qt.mv rfl) rfl ?_
  refine G.q Gd.no (Qt.mv rfl) rfl ?_
  refine G.ld Gd.no (Ld.call cal79 rfl rfl (.nil _) (fun F' hF => rof_ct F' _ _ _ _ _ _ R D (hF.fr hb) (hF.fr hf) fine rf _ (hF.fr hbb) hcb _ hm0 hm1) (fun ⟨ob2, cq, sp2⟩ ⟨hq5, hq6, hq7⟩ => ?_))
  dsimp only [lCa, lNa]
  rw [hrs] at hq5 hq6 hq7
  rw [hrs]
  refine G.q Gd.no (Qt.asg rfl) rfl ?_
  refine G.nil (GK.then (GC.seq (GC.seq (GC.region ?_))))
  refine G.q Gd.no (Qt.mv rfl) rfl ?_
  refine G.q Gd.no (Qt.lenS (rt := 0) Try.underlying29 rfl) rfl ?_
  refine G.q Gd.no (Qt.eqI rfl rfl) rfl ?_
  refine G.nil (GK.then ?_)
  refine GC.condb rfl (fun c1 => ?_) (fun c1 => ?_)
  ·try simp only [sB0, sB1, sB2, sB3, sB4, sB5, sB6, sB7, sB8] at c1
   refine GC.seq (GC.region ?_)
   refine G.q Gd.no (Qt.mv rfl) rfl ?_
   refine G.q Gd.no (Qt.mv rfl) rfl ?_
   refine G.ld Gd.no (Ld.call cal64 rfl rfl (.nil _) (fun F' hF => rbase_ct F' _ _ _ _ _ _ R D (hF.fr hb) (hF.fr hf) fine rf _ hm0 hm1) (fun _ _ => ?_))
   dsimp only [lCa, lNa]
   have hbd := Rl.base_bd fine rf hm0 hm1
   obtain ⟨o, ho⟩ : ∃ o, R.base D j = o := ⟨_, rfl⟩
   rw [ho] at hbd ⊢
   have hS := secL_vw hbb o
   have hSl := secL_len (R := R) fine hbd.1 hbd.2
   have hSb := secL_bytes fine o
   have k6 := fine.ok.len
   obtain ⟨xs, hxs⟩ : ∃ xs, secL D o = xs := ⟨_, rfl⟩
   rw [ho, hxs] at hid
   rw [hxs] at hS hSl hSb
   obtain ⟨r8, q8⟩ := hSb.le2 8
   refine G.q Gd.no (Qt.asg rfl) rfl ?_
   refine G.nil (GK.then (GC.seq (GC.region ?_)))
   refine G.q Gd.no (Qt.mv rfl) rfl ?_
   refine G.q Gd.no (Qt.nilc rfl) rfl ?_
   refine G.q Gd.no (Qt.fa0 fl105_0 rfl) rfl ?_
   refine G.q Gd.no (Qt.ldc a56 rfl (by first | exact Rdc.o rfl | exact Rdc.o (nth_vIs (by omega)) | exact Rdc.o (nth_vI (by omega)) | exact Rdc.f hb rfl | exact Rdc.f hf rfl)) rfl ?_
   refine G.q Gd.no (Qt.nilc rfl) rfl ?_
   refine G.q Gd.no (Qt.fa0 fl102_1 rfl) rfl ?_
   refine G.q Gd.no (Qt.ldc a53 rfl (by first | exact Rdc.o rfl | exact Rdc.o (nth_vIs (by omega)) | exact Rdc.o (nth_vI (by omega)) | exact Rdc.f hb rfl | exact Rdc.f hf rfl)) rfl ?_
   refine G.q Gd.no (Qt.mv rfl) rfl ?_
   refine G.q Gd.no (Qt.add rfl rfl (by first | exact i64_id (by omega) (by omega) | exact rfl)) rfl ?_
   refine G.q Gd.no (Qt.mv rfl) rfl ?_
   refine G.q Gd.no (Qt.add rfl rfl (by first | exact i64_id (by omega) (by omega) | exact rfl)) rfl ?_
   refine G.q Gd.no (Qt.sl Try.underlying53 z5 rfl rfl rfl (by omega) (by omega) (by omega) rfl rfl) rfl ?_
   rw [slAt_some (by omega), Nat.mul_one, Nat.zero_add, show (o + 10).toNat - (o + 8).toNat = 2 by omega, show (o + 8).toNat = o.toNat + 8 by omega]
   refine G.ld Gd.no (Ld.call cal80 rfl rfl (.nil _) (fun F' hF => num_ct F' (some ⟨bb, o.toNat + 8, none⟩) _ [ix xs 8, ix xs 9] (vw_cut2 (hS.mono hF) 8 (by omega)) (by simp) (bytes2 hSb 8)) (fun _ _ => ?_))
   dsimp only [lCa, lNa]
   rw [numL2, show ix xs 8 + ix xs 9 * 256 = le2 xs 8 from rfl]
   refine G.q Gd.no (Qt.conv Try.underlying122 Try.underlying3 rfl (by first | exact i64_id (by omega) (by omega) | exact rfl)) rfl ?_
   refine G.q Gd.no (Qt.asg rfl) rfl ?_
   refine G.nil (GK.then (GC.ret (GK.thenr ?_)))
   rw [hid, if_pos (by omega)]
   refine GK.ret (rs := [.tmp 2]) rfl (.tmp rfl .nil) () ?_ ?_ (.nil _)
   ·trivial
   ·rfl
  ·try simp only [sB0, sB1, sB2, sB3, sB4, sB5, sB6, sB7, sB8] at c1
   obtain ⟨b2, rfl⟩ : ∃ b2, ob2 = some b2 := by
    cases ob2 with
    | none => exact absurd (by rw [(hq6 rfl).1]; rfl) c1
    | some b2 => exact ⟨b2, rfl⟩
   obtain ⟨u, hu⟩ : ∃ u, rs[rs.length - 1]? = some u := ⟨_, List.getElem?_eq_getElem (by omega)⟩
   have hw := hwf u (List.mem_of_getElem? hu)
   rw [if_neg (by omega), List.getD_eq_getElem?_getD, hu, Option.getD_some] at hid
   refine GC.skip (GK.then (GC.seq (GC.region ?_)))
   refine G.q Gd.no (Qt.mv rfl) rfl ?_
   refine G.q Gd.no (Qt.mv rfl) rfl ?_
   refine G.q Gd.no (Qt.lenS (rt := 0) Try.underlying29 rfl) rfl ?_
   refine G.q Gd.no (Qt.sub rfl rfl (by exact i64_id (by omega) (by omega))) rfl ?_
   refine G.q Gd.no (Qt.iab0 Try.underlying29 z40 rfl rfl (by omega) (by omega) (show ((rs.length : Int) - 1).toNat = rs.length - 1 by omega)) rfl ?_
   refine G.q Gd.no (Qt.fa fl40_0 rfl) rfl ?_
   refine G.q Gd.no (Qt.ldc a36 rfl (Rdc.o (evs_id hu))) rfl ?_
   refine G.q Gd.no (Qt.conv Try.underlying36 Try.underlying3 rfl (by first | exact i64_id (by omega) (by omega) | exact rfl)) rfl ?_
   refine G.q Gd.no (Qt.asg rfl) rfl ?_
   refine G.nil (GK.then (GC.seq (GC.seq (GC.region ?_))))
   refine G.q Gd.no (Qt.mv rfl) rfl ?_
   refine G.q Gd.no (Qt.eqI rfl rfl) rfl ?_
   refine G.nil (GK.then ?_)
   refine GC.condb rfl (fun c2 => ?_) (fun c2 => ?_)
   ·try simp only [sB0, sB1, sB2, sB3, sB4, sB5, sB6, sB7, sB8] at c2
    refine GC.seq (GC.region ?_)
    refine G.q Gd.no (Qt.asg rfl) rfl ?_
    refine G.nil (GK.then (GC.ret (GK.thenr ?_)))
    rw [hid, show behind u.id = 1 from if_pos c2]
    refine GK.ret (rs := [.tmp 2]) rfl (.tmp rfl .nil) () ?_ ?_ (.nil _)
    ·trivial
    ·rfl
   ·try simp only [sB0, sB1, sB2, sB3, sB4, sB5, sB6, sB7, sB8] at c2
    refine GC.skip (GK.then (GC.seq (GC.region ?_)))
    refine G.q Gd.no (Qt.mv rfl) rfl ?_
    refine G.q Gd.no (Qt.add rfl rfl (by first | exact i64_id (by omega) (by omega) | exact rfl)) rfl ?_
    refine G.q Gd.no (Qt.asg rfl) rfl ?_
    refine G.nil (GK.then (GC.ret ?_))
    rw [hid, show behind u.id = u.id + 1 from if_neg c2]
    refine GK.ret (rs := [.tmp 2]) rfl (.tmp rfl .nil) () ?_ ?_ (.nil _)
    ·trivial
    ·rfl
theorem rplace_ct (F : Fr) (b f bb bw cb cw : Nat) (R : Rl) (D : Dev) (hb : F.h b = some (Blk.cells (rlC R f) 105).toObj) (hf : F.h f = some (Blk.cells (devC D bb bw cb cw) 102).toObj) (fine : D.Fine) (rf : R.Fine D) (sb : List Value) (hbb : F.h bb = some (Blk.cells (vI .u8 D.bytes ++ sb) 5).toObj) (hcb : D.n ≤ cb) :
    Ct Try.prog F 60 [.pointer (some ⟨b, 0, none⟩)] [] (S := Unit) (fun _ => True) (fun _ => .int .i64 (R.place D)) (fun _ => []) := by
 have k7 := rf.S2
 have k8 := rf.fS
 have k9 := fine.ok.wlen
 have k10 := rf.f0
 have k4 := rf.sz
 have k5 := fine.geo.size1
 obtain ⟨q, t, hnew⟩ : ∃ q t, R.newest D = (q, t) := ⟨_, _, rfl⟩
 have hq := R.newest_bd D
 rw [hnew] at hq
 dsimp only at hq
 obtain ⟨hq0, hq1, hq2, hq3, hq4⟩ := hq
 refine Ct.of 58 [(0, _)] Try.func60 rfl rfl rfl rfl ?_
 refine GC.seq (GC.region ?_)
 refine G.q Gd.no (Qt.asg rfl) rfl ?_
 refine G.nil (GK.then (GC.seq (GC.region ?_)))
 refine G.q Gd.no (Qt.mv rfl) rfl ?_
 refine G.ld Gd.no (Ld.call cal61 rfl rfl (.nil _) (fun F' hF => rnewest_ct F' _ _ _ _ _ _ R D (hF.fr hb) (hF.fr hf) fine rf _ (hF.fr hbb) hcb) (fun _ _ => ?_))
 dsimp only [lCa, lNa]
 rw [hnew]
 dsimp only
 refine G.q Gd.no (Qt.mv rfl) rfl ?_
 refine G.q Gd.no (Qt.ext rfl rfl) rfl ?_
 refine G.q Gd.no (Qt.ext rfl rfl) rfl ?_
 refine G.q Gd.no (Qt.asg rfl) rfl ?_
 refine G.q Gd.no (Qt.asg rfl) rfl ?_
 refine G.nil (GK.then (GC.seq (GC.seq (GC.region ?_))))
 refine G.q Gd.no (Qt.mv rfl) rfl ?_
 refine G.q Gd.no (Qt.eqI rfl rfl) rfl ?_
 refine G.nil (GK.then ?_)
 refine GC.condb rfl (fun c0 => ?_) (fun c0 => ?_)
 ·try simp only [sB0, sB1, sB2, sB3, sB4, sB5, sB6, sB7, sB8] at c0
  refine GC.seq (GC.region ?_)
  refine G.q Gd.no (Qt.asg rfl) rfl ?_
  refine G.nil (GK.then (GC.ret (GK.thenr ?_)))
  rw [show R.place D = -1 from if_pos (by rw [hnew]; exact c0)]
  refine GK.ret (rs := [.tmp 2]) rfl (.tmp rfl .nil) () ?_ ?_ (.nil _)
  ·trivial
  ·rfl
 ·try simp only [sB0, sB1, sB2, sB3, sB4, sB5, sB6, sB7, sB8] at c0
  have hm0 := Int.emod_nonneg (q - 1) (show R.S ≠ 0 by omega)
  have hm1 := Int.emod_lt_of_pos (q - 1) (show 0 < R.S by omega)
  obtain ⟨j, hj⟩ : ∃ j, (q - 1) % R.S = j := ⟨_, rfl⟩
  rw [hj] at hm0 hm1
  obtain ⟨xs, hxs⟩ : ∃ xs, secL D (R.base D j) = xs := ⟨_, rfl⟩
  obtain ⟨n, hn⟩ : ∃ n, slotsN D.size.toNat = n := ⟨_, rfl⟩
  have hsl : (n : Int) = (D.size - 11) / 17 := by rw [← hn]; unfold slotsN; omega
  have hpl : R.place D = if freeN xs n = n then -1 else (freeN xs n : Int) := by unfold Rl.place Rl.usedN; rw [hnew]; dsimp only; rw [if_neg c0, hj, hxs, hn]
  refine GC.skip (GK.then (GC.seq (GC.region ?_)))
  refine G.q Gd.no (Qt.mv rfl) rfl ?_
  refine G.q Gd.no (Qt.sub rfl rfl (by first | exact i64_id (by omega) (by omega) | exact rfl)) rfl ?_
  refine G.q Gd.no (Qt.mv rfl) rfl ?_
  refine G.q Gd.no (Qt.nilc rfl) rfl ?_
  refine G.q Gd.no (Qt.fa0 fl105_2 rfl) rfl ?_
  refine G.q Gd.no (Qt.ldc a3 rfl (by first | exact Rdc.o rfl | exact Rdc.o (nth_vIs (by omega)) | exact Rdc.o (nth_vI (by omega)) | exact Rdc.f hb rfl | exact Rdc.f hf rfl)) rfl ?_
  refine G.q Gd.no (Qt.rem rfl rfl (by omega) (by first | exact rem_nn (by omega) | exact rfl)) rfl ?_
  rw [hj]
  refine G.q Gd.no (Qt.asg rfl) rfl ?_
  refine G.nil (GK.then (GC.seq (GC.region ?_)))
  refine G.q Gd.no (Qt.mv rfl) rfl ?_
  refine G.q Gd.no (Qt.nilc rfl) rfl ?_
  refine G.q Gd.no (Qt.fa0 fl105_0 rfl) rfl ?_
  refine G.q Gd.no (Qt.ldc a56 rfl (by first | exact Rdc.o rfl | exact Rdc.o (nth_vIs (by omega)) | exact Rdc.o (nth_vI (by omega)) | exact Rdc.f hb rfl | exact Rdc.f hf rfl)) rfl ?_
  refine G.q Gd.no (Qt.nilc rfl) rfl ?_
  refine G.q Gd.no (Qt.fa0 fl102_0 rfl) rfl ?_
  refine G.q Gd.no (Qt.ldc a3 rfl (by first | exact Rdc.o rfl | exact Rdc.o (nth_vIs (by omega)) | exact Rdc.o (nth_vI (by omega)) | exact Rdc.f hb rfl | exact Rdc.f hf rfl)) rfl ?_
  refine G.ld Gd.no (Ld.call cal81 rfl rfl (.nil _) (fun F' hF => rslots_ct F' _ (by omega) (by omega)) (fun _ _ => ?_))
  dsimp only [lCa, lNa]
  rw [← hsl]
  refine G.q Gd.no (Qt.asg rfl) rfl ?_
  refine G.nil (GK.then (GC.seq (GC.block ?_)))
  refine GC.loop (S := Nat) (fun x => x ≤ n ∧ freeN xs n = freeN xs x) (fun x => x)
   (fun x => [(0, .pointer (some ⟨b, 0, none⟩)), (5, .int .i64 j), (6, .int .i64 (x : Int))]) (fun x => []) n ?_ ?_ ?_ ?_
  ·exact ⟨Nat.le_refl _, rfl⟩
  ·exact ⟨rfl, rfl, rfl, trivial⟩
  ·exact ⟨_, (.nil _)⟩
  intro x ⟨h1, h2⟩
  refine GC.seq (GC.seq (GC.region ?_))
  refine G.q Gd.no (Qt.mv rfl) rfl ?_
  refine G.q Gd.no (Qt.gtr rfl rfl) rfl ?_
  refine G.nil (GK.then ?_)
  refine GC.condb rfl (fun c1 => ?_) (fun c1 => ?_)
  ·try simp only [sB0, sB1, sB2, sB3, sB4, sB5, sB6, sB7, sB8] at c1
   obtain ⟨i, rfl⟩ : ∃ i, x = i + 1 := ⟨x - 1, by omega⟩
   have hi : 11 + (i : Int) * 17 + 17 ≤ D.size := by omega
   have hfr : freeN xs (i + 1) = if blankL (slotL xs i) then freeN xs i else i + 1 := rfl
   refine GC.skip (GK.then (GC.block (GC.seq (GC.region ?_))))
   refine G.q Gd.no (Qt.mv rfl) rfl ?_
   refine G.q Gd.no (Qt.mv rfl) rfl ?_
   refine G.q Gd.no (Qt.mv rfl) rfl ?_
   refine G.q Gd.no (Qt.sub rfl rfl (by first | exact i64_id (by omega) (by omega) | exact rfl)) rfl ?_
   rw [show ((i + 1 : Nat) : Int) - 1 = i by omega]
   refine G.ld Gd.no (Ld.call cal82 rfl rfl (.nil _) (fun F' hF => rslot_ct F' _ _ _ _ _ _ R D (hF.fr hb) (hF.fr hf) fine rf _ (hF.fr hbb) hcb _ hm0 hm1 i hi) (fun _ _ => ?_))
   dsimp only [lCa, lNa]
   rw [hxs, slotR_free]
   refine G.q Gd.no (Qt.mv rfl) rfl ?_
   refine G.q Gd.no (Qt.ext rfl rfl) rfl ?_
   refine G.q Gd.no (Qt.ext rfl rfl) rfl ?_
   refine G.q Gd.no (Qt.ext rfl rfl) rfl ?_
   refine G.ld Gd.no (Ld.alloc rfl ze40 (by first | exact Cl.one rfl | exact Cl.agg) (fun b7 => ?_))
   refine G.ld Gd.no (Ld.stW (by exact z40) rfl rfl (evC_one _) (E := 40) (by rfl) UpdC.u ?_)
   refine G.q Gd.no (Qt.asg rfl) rfl ?_
   refine G.q Gd.no (Qt.asg rfl) rfl ?_
   refine G.nil (GK.then (GC.seq (GC.seq (GC.region ?_))))
   refine G.q Gd.no (Qt.mv rfl) rfl ?_
   refine G.q Gd.no (Qt.not rfl) rfl ?_
   refine G.nil (GK.then ?_)
   refine GC.condb rfl (fun c2 => ?_) (fun c2 => ?_)
   ·try simp only [sB0, sB1, sB2, sB3, sB4, sB5, sB6, sB7, sB8] at c2
    have hfx : freeN xs n = i + 1 := by rw [h2, hfr, if_neg (by simp [c2])]
    refine GC.exit (GK.thene ?_)
    refine GK.blocko rfl ?_
    refine GK.thene (GK.blocke (GK.then (GC.seq (GC.seq (GC.region ?_)))))
    refine G.q Gd.no (Qt.mv rfl) rfl ?_
    refine G.q Gd.no (Qt.mv rfl) rfl ?_
    refine G.q Gd.no (Qt.nilc rfl) rfl ?_
    refine G.q Gd.no (Qt.fa0 fl105_0 rfl) rfl ?_
    refine G.q Gd.no (Qt.ldc a56 rfl (by first | exact Rdc.o rfl | exact Rdc.o (nth_vIs (by omega)) | exact Rdc.o (nth_vI (by omega)) | exact Rdc.f hb rfl | exact Rdc.f hf rfl)) rfl ?_
    refine G.q Gd.no (Qt.nilc rfl) rfl ?_
    refine G.q Gd.no (Qt.fa0 fl102_0 rfl) rfl ?_
    refine G.q Gd.no (Qt.ldc a3 rfl (by first | exact Rdc.o rfl | exact Rdc.o (nth_vIs (by omega)) | exact Rdc.o (nth_vI (by omega)) | exact Rdc.f hb rfl | exact Rdc.f hf rfl)) rfl ?_
    refine G.ld Gd.no (Ld.call cal81 rfl rfl (.nil _) (fun F' hF => rslots_ct F' _ (by omega) (by omega)) (fun _ _ => ?_))
    dsimp only [lCa, lNa]
    rw [← hsl]
    refine G.q Gd.no (Qt.eqI rfl rfl) rfl ?_
    refine G.nil (GK.then ?_)
    refine GC.condb rfl (fun c3 => ?_) (fun c3 => ?_)
    ·try simp only [sB0, sB1, sB2, sB3, sB4, sB5, sB6, sB7, sB8] at c3
     refine GC.seq (GC.region ?_)
     refine G.q Gd.no (Qt.asg rfl) rfl ?_
     refine G.nil (GK.then (GC.ret (GK.thenr ?_)))
     rw [hpl, hfx, if_pos (by omega)]
     refine GK.ret (rs := [.tmp 2]) rfl (.tmp rfl .nil) () ?_ ?_ (.nil _)
     ·trivial
     ·rfl
    ·try simp only [sB0, sB1, sB2, sB3, sB4, sB5, sB6, sB7, sB8] at c3
     refine GC.skip (GK.then (GC.seq (GC.region ?_)))
     refine G.q Gd.no (Qt.mv rfl) rfl ?_
     refine G.q Gd.no (Qt.asg rfl) rfl ?_
     refine G.nil (GK.then (GC.ret ?_))
     rw [hpl, hfx, if_neg (by omega)]
     refine GK.ret (rs := [.tmp 2]) rfl (.tmp rfl .nil) () ?_ ?_ (.nil _)
     ·trivial
     ·rfl
   ·try simp only [sB0, sB1, sB2, sB3, sB4, sB5, sB6, sB7, sB8] at c2
    refine GC.skip (GK.then (GC.region ?_))
    refine G.q Gd.no (Qt.mv rfl) rfl ?_
    refine G.q Gd.no (Qt.sub rfl rfl (by first | exact i64_id (by omega) (by omega) | exact rfl)) rfl ?_
    refine G.q Gd.no (Qt.asg rfl) rfl ?_
    refine G.nil (GK.blockn ?_)
    refine GK.head i ?_ ?_ ?_ ?_
    ·omega
    ·exact ⟨by omega, by rw [h2, hfr, if_pos (by simpa using c2)]⟩
    ·exact ⟨rfl, rfl, by rw [show (i : Int) = ((i + 1 : Nat) : Int) - 1 by omega]; rfl, trivial⟩
    ·exact ⟨_, (.nil _)⟩
  ·try simp only [sB0, sB1, sB2, sB3, sB4, sB5, sB6, sB7, sB8] at c1
   refine GC.exit (GK.thene (GK.thene (GK.blocke (GK.then (GC.seq (GC.seq (GC.region ?_)))))))
   refine G.q Gd.no (Qt.mv rfl) rfl ?_
   refine G.q Gd.no (Qt.mv rfl) rfl ?_
   refine G.q Gd.no (Qt.nilc rfl) rfl ?_
   refine G.q Gd.no (Qt.fa0 fl105_0 rfl) rfl ?_
   refine G.q Gd.no (Qt.ldc a56 rfl (by first | exact Rdc.o rfl | exact Rdc.o (nth_vIs (by omega)) | exact Rdc.o (nth_vI (by omega)) | exact Rdc.f hb rfl | exact Rdc.f hf rfl)) rfl ?_
   refine G.q Gd.no (Qt.nilc rfl) rfl ?_
   refine G.q Gd.no (Qt.fa0 fl102_0 rfl) rfl ?_
   refine G.q Gd.no (Qt.ldc a3 rfl (by first | exact Rdc.o rfl | exact Rdc.o (nth_vIs (by omega)) | exact Rdc.o (nth_vI (by omega)) | exact Rdc.f hb rfl | exact Rdc.f hf rfl)) rfl ?_
   refine G.ld Gd.no (Ld.call cal81 rfl rfl (.nil _) (fun F' hF => rslots_ct F' _ (by omega) (by omega)) (fun _ _ => ?_))
   dsimp only [lCa, lNa]
   rw [← hsl]
   refine G.q Gd.no (Qt.eqI rfl rfl) rfl ?_
   refine G.nil (GK.then ?_)
   refine GC.condb rfl (fun c4 => ?_) (fun c4 => ?_)
   ·try simp only [sB0, sB1, sB2, sB3, sB4, sB5, sB6, sB7, sB8] at c4
    refine GC.seq (GC.region ?_)
    refine G.q Gd.no (Qt.asg rfl) rfl ?_
    refine G.nil (GK.then (GC.ret (GK.thenr ?_)))
    obtain rfl : x = 0 := by omega
    rw [hpl, h2, show freeN xs 0 = 0 from rfl, if_pos (by omega)]
    refine GK.ret (rs := [.tmp 2]) rfl (.tmp rfl .nil) () ?_ ?_ (.nil _)
    ·trivial
    ·rfl
   ·try simp only [sB0, sB1, sB2, sB3, sB4, sB5, sB6, sB7, sB8] at c4
    refine GC.skip (GK.then (GC.seq (GC.region ?_)))
    refine G.q Gd.no (Qt.mv rfl) rfl ?_
    refine G.q Gd.no (Qt.asg rfl) rfl ?_
    refine G.nil (GK.then (GC.ret ?_))
    obtain rfl : x = 0 := by omega
    rw [hpl, h2, show freeN xs 0 = 0 from rfl, if_neg (by omega)]
    refine GK.ret (rs := [.tmp 2]) rfl (.tmp rfl .nil) () ?_ ?_ (.nil _)
    ·trivial
    ·rfl
end Go.Proofs.Ytbeiciinppmekaa
