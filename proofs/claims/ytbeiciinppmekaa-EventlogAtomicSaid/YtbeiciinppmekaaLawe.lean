/-
  baseboardlaw09.EventlogOpens returns true; its conditions are its premises: the bytes and numbers lie in memory.
-/
import Derived.Test.YtbeiciinppmekaaTb
import Derived.Test.YtbeiciinppmekaaLawd
import Derived.Test.YtbeiciinppmekaaProg
namespace Go.Proofs.Ytbeiciinppmekaa
open Go Go.Sx Go.Proofs
set_option maxRecDepth 100000
set_option linter.unusedSimpArgs false
set_option linter.unusedVariables false
/-- What holds of the two logs and their devices between the steps; D0 is of the devices' shape, S the log's sectors. -/
structure Pg (D0 : Dev) (S : Int) (Y : Lg) (R : Rl) (D : Dev) : Prop where
  fine : D.Fine
  like : D.Like D0
  rS : R.S = S
  rf : R.Fine D
  st : (Agree Y R D ∧ D.down = false) ∨ (Y = Lg.gone ∧ R.ended = true ∧ R.refused = false)
theorem Pg.events {D0 : Dev} {S : Int} {Y : Lg} {R : Rl} {D : Dev} (h : Pg D0 S Y R D) : Y.events = R.records D := by
  rcases h.st with ⟨a, _⟩ | ⟨h1, h2, _⟩
  · exact a.events
  · rw [h1]; unfold Rl.records; rw [if_pos h2]; rfl
theorem Pg.full {D0 : Dev} {S : Int} {Y : Lg} {R : Rl} {D : Dev} (h : Pg D0 S Y R D) : Y.full = R.refused := by
  rcases h.st with ⟨a, _⟩ | ⟨h1, _, h2⟩
  · exact a.full
  · rw [h1, h2]; rfl
theorem Pg.len {D0 : Dev} {S : Int} {Y : Lg} {R : Rl} {D : Dev} (h : Pg D0 S Y R D) (hn : S ≤ 255) : Y.recs.length ≤ 16777216 := by
  rcases h.st with ⟨a, _⟩ | ⟨h1, _, _⟩
  · exact recs_len_bd a (by rw [h.rS]; exact hn)
  · rw [h1]; exact Nat.zero_le _
theorem Pg.gf {D0 : Dev} {S : Int} {Y : Lg} {R : Rl} {D : Dev} (h : Pg D0 S Y R D) : Y.ended = false → Y.Fine D := by
  intro he
  rcases h.st with ⟨a, _⟩ | ⟨h1, _, _⟩
  · exact a.yf
  · rw [h1] at he; cases he
theorem Pg.add {D0 : Dev} {S : Int} {Y : Lg} {R : Rl} {D : Dev} (h : Pg D0 S Y R D) {e : Ev} (wf : e.Wf) : (Y.add D e).2 = (R.add D e).2 ∧ Pg D0 S (Y.add D e).1 (R.add D e).1 (R.add D e).2.1 := by
  have hl := radd_last (R := R) (D := D) (e := e)
  have hrf : ∀ {E : Dev}, E.Like D → (R.add D e).1.Fine E := fun l => ⟨by rw [hl.1]; exact h.rf.f0, by rw [hl.2.1]; exact h.rf.S2, by rw [hl.1, hl.2.1, l.2.1]; exact h.rf.fS, by rw [l.2.2]; exact h.rf.sz, by rw [hl.2.2]; exact h.rf.l0, by rw [hl.2.2]; exact h.rf.l1⟩
  rcases h.st with ⟨a, hd⟩ | ⟨h1, h2, h3⟩
  · obtain ⟨e1, o, f, l, _⟩ := add_agree a hd wf
    have e2 : Y.add D e = Y.addUp D e := by unfold Lg.add; rw [if_neg (by simp [a.ye, hd])]
    rw [e2]
    refine ⟨e1, f, l.trans h.like, by rw [hl.2.1]; exact h.rS, hrf l, ?_⟩
    rcases o with o | ⟨o1, o2, o3, _⟩
    · exact .inl o
    · exact .inr ⟨o1, o2, o3⟩
  · have e1 : Y.add D e = (Lg.gone, D, 0, 10) := by unfold Lg.add; rw [if_pos (by rw [h1]; rfl)]
    have e2 : R.add D e = (R.endR, D, 0, 10) := by unfold Rl.add; rw [if_pos (by rw [h2]; rfl)]
    rw [e1, e2]
    exact ⟨rfl, h.fine, h.like, h.rS, ⟨h.rf.f0, h.rf.S2, h.rf.fS, h.rf.sz, h.rf.l0, h.rf.l1⟩, .inr ⟨rfl, rfl, rfl⟩⟩
theorem Pg.opened {D0 D : Dev} {first S : Int} {over : Bool} (f : D.Fine) (l : D.Like D0) (hd : D.down = false) (hno : noRoom D.nw first S = false) (hm : 64 ≤ D.size) : Pg D0 S (openL first S over D) (Rl.open0 first S over) D := by
  have a := openL_agree f (over := over) hno hm
  exact ⟨f, l, rfl, a.rf, .inl ⟨a, hd⟩⟩
theorem Pg.dOf {D0 D : Dev} {first S : Int} {over : Bool} (h : Pg D0 S (openL first S over D) (Rl.open0 first S over) D) (q : Nat) : Go.Proofs.Ytbeiciinppmekaa.dOf (openL first S over D) q = some ⟨q, 0, none⟩ := by
  rcases h.st with ⟨a, _⟩ | ⟨_, h2, _⟩
  · unfold Go.Proofs.Ytbeiciinppmekaa.dOf; rw [a.ye]; rfl
  · cases h2
/-- A device that is not armed stays up. -/
theorem Dev.step_left0 {D : Dev} (h : D.left = 0) (hd : D.down = false) : D.step.left = 0 ∧ D.step.down = false := by
  unfold Dev.step
  rw [if_neg (by omega)]
  exact ⟨h, hd⟩
/-- Dice, rolled k times for an event. -/
def Di.evN (D : Di) : Nat → Di
  | 0 => D
  | k + 1 => (D.evN k).event.2
theorem Di.event_l (D : Di) : D.event.2.l = D.l := by
  unfold Di.event
  dsimp only
  simp only [Di.bool_l, Di.byte_l, Di.next_l]
theorem Di.evN_succ (D : Di) (k : Nat) : D.evN (k + 1) = (D.evN k).event.2 := by rw [Di.evN]
theorem Di.evN_l (D : Di) : ∀ k, (D.evN k).l = D.l
  | 0 => by rw [Di.evN]
  | k + 1 => by rw [Di.evN_succ, Di.event_l, Di.evN_l D k]
end Go.Proofs.Ytbeiciinppmekaa
