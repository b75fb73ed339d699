/-
  baseboardref09's Log: Records, nextID, place do what the models say; each contract's conditions are its premises.
-/
import Derived.Test.YtbeiciinppmekaaTb
import Derived.Test.YtbeiciinppmekaaRloga
import Derived.Test.YtbeiciinppmekaaSx12
import Derived.Test.YtbeiciinppmekaaProg
namespace Go.Proofs.Ytbeiciinppmekaa
open Go Go.Sx Go.Proofs
set_option maxRecDepth 100000
set_option linter.unusedSimpArgs false
set_option linter.unusedVariables false
theorem Rl.hdr_bd {R : Rl} {D : Dev} (j : Int) : R.hdr D j = (0, 0) ∨ (1 ≤ (R.hdr D j).1 ∧ (R.hdr D j).1 ≤ 2147483648 ∧ ((R.hdr D j).1 - 1) % R.S = j ∧ 1 ≤ (R.hdr D j).2 ∧ (R.hdr D j).2 ≤ (R.hdr D j).1 ∧ (R.hdr D j).1 - (R.hdr D j).2 ≤ R.S - 2) := by
  unfold Rl.hdr
  by_cases h : Hd.ok (secL D (R.base D j)) R.S j = true
  · rw [if_pos h]
    simp only [Hd.ok, decide_eq_true_eq] at h
    right
    simp only
    omega
  · rw [if_neg h]; exact .inl rfl
theorem Rl.newestN_bd {R : Rl} {D : Dev} (k : Nat) : (R.newestN D k = (0, 0) ∨ ∃ j : Nat, j < k ∧ R.newestN D k = R.hdr D j ∧ 1 ≤ (R.hdr D j).1) ∧ ∀ j : Nat, j < k → (R.hdr D j).1 ≤ (R.newestN D k).1 := by
  induction k with
  | zero => exact ⟨.inl rfl, fun j h => by omega⟩
  | succ k ih =>
    obtain ⟨i1, i2⟩ := ih
    rw [R.newestN_succ D k]
    have hq : 0 ≤ (R.newestN D k).1 := by
      rcases i1 with i1 | ⟨j, _, i1, i3⟩
      · rw [i1]; decide
      · rw [i1]; omega
    by_cases h : (R.newestN D k).1 < (R.hdr D k).1
    · rw [if_pos h]
      refine ⟨.inr ⟨k, by omega, rfl, by omega⟩, fun j hj => ?_⟩
      by_cases e : j < k
      · have := i2 j e; omega
      · rw [show j = k by omega]; exact Int.le_refl _
    · rw [if_neg h]
      refine ⟨?_, fun j hj => ?_⟩
      · rcases i1 with i1 | ⟨j, h1, h2⟩
        · exact .inl i1
        · exact .inr ⟨j, by omega, h2⟩
      · by_cases e : j < k
        · exact i2 j e
        · rw [show j = k by omega]; omega
theorem Rl.newest_bd (R : Rl) (D : Dev) : 0 ≤ (R.newest D).1 ∧ (R.newest D).1 ≤ 2147483648 ∧ 0 ≤ (R.newest D).2 ∧ (R.newest D).2 ≤ (R.newest D).1 ∧ (1 ≤ (R.newest D).1 → 1 ≤ (R.newest D).2 ∧ (R.newest D).1 - (R.newest D).2 ≤ R.S - 2) := by
  rcases (R.newestN_bd (D := D) R.S.toNat).1 with h | ⟨j, _, h, h1⟩
  · rw [show R.newest D = (0, 0) from h]; exact ⟨by simp, by simp, by simp, by simp, fun e => by simp at e⟩
  · rw [show R.newest D = R.hdr D j from h]
    rcases R.hdr_bd (D := D) j with h2 | h2
    · rw [h2] at h1; simp at h1
    · omega
/-- The records of the sector of sequence number s. -/
def Rl.at_ (R : Rl) (D : Dev) (s : Int) : List Ev := if (R.hdr D ((s - 1) % R.S)).1 = s then R.ofS D ((s - 1) % R.S) else []
def Rl.recsN (R : Rl) (D : Dev) (t : Int) (k : Nat) : List Ev := (List.range k).flatMap fun i => R.at_ D (t + (i : Nat))
theorem Rl.recsN_succ (R : Rl) (D : Dev) (t : Int) (k : Nat) : R.recsN D t (k + 1) = R.recsN D t k ++ R.at_ D (t + (k : Nat)) := by
  unfold Rl.recsN
  rw [List.range_succ, List.flatMap_append, List.flatMap_singleton]
def Rl.records (R : Rl) (D : Dev) : List Ev := if R.ended then [] else if 1 ≤ (R.newest D).2 then R.recsN D (R.newest D).2 ((R.newest D).1 + 1 - (R.newest D).2).toNat else []
theorem Rl.ofS_len (R : Rl) {D : Dev} (h : D.Fine) (j : Int) : (R.ofS D j).length ≤ 65536 := by
  have h1 := ofN_len (secL D (R.base D j)) (slotsN D.size.toNat)
  have h2 := h.geo.size1
  unfold Rl.ofS slotsN at *
  omega
theorem Rl.at_len (R : Rl) {D : Dev} (h : D.Fine) (s : Int) : (R.at_ D s).length ≤ 65536 := by
  unfold Rl.at_
  split
  · exact R.ofS_len h _
  · simp
theorem Rl.recsN_len (R : Rl) {D : Dev} (h : D.Fine) (t : Int) (k : Nat) : (R.recsN D t k).length ≤ k * 65536 := by
  induction k with
  | zero => simp [Rl.recsN]
  | succ k ih =>
    have := R.at_len h (t + (k : Nat))
    rw [R.recsN_succ, List.length_append, Nat.add_mul, Nat.one_mul]
    omega
/-- The ID of the next record. -/
def Rl.nextID (R : Rl) (D : Dev) : Int :=
  if (R.newest D).1 = 0 then 1 else
  if (R.ofS D (((R.newest D).1 - 1) % R.S)).length = 0 then le2 (secL D (R.base D (((R.newest D).1 - 1) % R.S))) 8 else
  behind ((R.ofS D (((R.newest D).1 - 1) % R.S)).getD ((R.ofS D (((R.newest D).1 - 1) % R.S)).length - 1) Ev.zero).id
/-- The least n such that the slots from n on are free. -/
def freeN (xs : List Int) : Nat → Nat
  | 0 => 0
  | n + 1 => if blankL (slotL xs n) then freeN xs n else n + 1
theorem freeN_le (xs : List Int) : ∀ n, freeN xs n ≤ n
  | 0 => Nat.le_refl _
  | n + 1 => by
    have := freeN_le xs n
    unfold freeN
    split <;> omega
def Rl.usedN (R : Rl) (D : Dev) : Nat := freeN (secL D (R.base D (((R.newest D).1 - 1) % R.S))) (slotsN D.size.toNat)
def Rl.place (R : Rl) (D : Dev) : Int := if (R.newest D).1 = 0 then -1 else if R.usedN D = slotsN D.size.toNat then -1 else R.usedN D
theorem slotR_free (sl : List Int) : (slotR sl).2.2 = blankL sl := by
  unfold slotR
  split
  · rename_i h; rw [h]
  · rename_i h
    have : blankL sl = false := by simpa using h
    rw [this]
    split <;> rfl
theorem slotE_wf {sl : List Int} (hb : Bytes sl) {e : Ev} (h : slotE sl = some e) : e.Wf ∧ e.valid = true ∧ 1 ≤ e.id ∧ e.id ≤ 65534 := by
  unfold slotE slotR at h
  by_cases h2 : blankL sl = true
  · rw [if_pos h2] at h; simp at h
  · rw [if_neg h2] at h
    by_cases h3 : ¬ ix sl 16 = 0
    · rw [if_pos h3] at h; simp at h
    · rw [if_neg h3] at h
      by_cases h1 : (evDec (sl.take 16)).2 = 0 ∧ ¬ (evDec (sl.take 16)).1.id = 0
      · rw [if_pos (by simpa using h1)] at h
        simp only [Option.some.injEq] at h
        subst h
        have hw := evDec_wf (hb.take 16)
        have hv := evDec_valid h1.1
        refine ⟨hw, hv, ?_⟩
        have h4 := hv
        simp only [Ev.valid, Bool.and_eq_true, decide_eq_true_eq] at h4
        have := hw.id
        omega
      · rw [if_neg (by simpa using h1)] at h; cases h
theorem ofN_wf {xs : List Int} (hb : Bytes xs) {k : Nat} {e : Ev} (h : e ∈ ofN xs k) : e.Wf ∧ e.valid = true ∧ 1 ≤ e.id ∧ e.id ≤ 65534 := by
  unfold ofN at h
  obtain ⟨i, _, hi⟩ := List.mem_filterMap.1 h
  exact slotE_wf (slotL_bytes hb i) hi
theorem Rl.ofS_wf {R : Rl} {D : Dev} (h : D.Fine) {j : Int} {e : Ev} (he : e ∈ R.ofS D j) : e.Wf ∧ e.valid = true ∧ 1 ≤ e.id ∧ e.id ≤ 65534 := ofN_wf (secL_bytes h _) he
theorem Rl.hdr_id {R : Rl} {D : Dev} {j : Int} (h : 1 ≤ (R.hdr D j).1) : 1 ≤ le2 (secL D (R.base D j)) 8 ∧ le2 (secL D (R.base D j)) 8 ≤ 65534 := by
  unfold Rl.hdr at h
  by_cases h1 : Hd.ok (secL D (R.base D j)) R.S j = true
  · simp only [Hd.ok, decide_eq_true_eq] at h1
    omega
  · rw [if_neg h1] at h; simp at h
theorem Rl.newest_j {R : Rl} {D : Dev} (h : 1 ≤ (R.newest D).1) : R.hdr D (((R.newest D).1 - 1) % R.S) = R.newest D := by
  rcases (R.newestN_bd (D := D) R.S.toNat).1 with h2 | ⟨j, _, h2, h3⟩
  · rw [show R.newest D = (0, 0) from h2] at h; simp at h
  · rw [show R.newest D = R.hdr D j from h2]
    rcases R.hdr_bd (D := D) j with h4 | h4
    · rw [h4] at h3; simp at h3
    · rw [h4.2.2.1]
theorem behind_bd {i : Int} (h0 : 1 ≤ i) (h1 : i ≤ 65534) : 1 ≤ behind i ∧ behind i ≤ 65534 := by unfold behind; split <;> omega
theorem Rl.nextID_bd {R : Rl} {D : Dev} (h : D.Fine) : 1 ≤ R.nextID D ∧ R.nextID D ≤ 65534 := by
  have hq := R.newest_bd D
  unfold Rl.nextID
  split
  · decide
  · rename_i h0
    split
    · refine R.hdr_id ?_
      rw [R.newest_j (by omega)]; omega
    · rename_i h1
      have hm : (R.ofS D (((R.newest D).1 - 1) % R.S)).getD ((R.ofS D (((R.newest D).1 - 1) % R.S)).length - 1) Ev.zero ∈ R.ofS D (((R.newest D).1 - 1) % R.S) := by
        rw [List.getD_eq_getElem?_getD, List.getElem?_eq_getElem (by omega), Option.getD_some]
        exact List.getElem_mem _
      have := R.ofS_wf h hm
      exact behind_bd this.2.2.1 this.2.2.2
theorem evs_id {rs : List Ev} {sp : List Value} {k : Nat} {u : Ev} (h : rs[k]? = some u) : (rs.flatMap evC ++ sp)[k * 10 + 0]? = some (.int .u16 u.id) := by
  rw [nth_flatMap evC_len h (by omega)]; rfl
end Go.Proofs.Ytbeiciinppmekaa
