/-
  baseboardlaw09.awake returns true; no condition.
-/
import Derived.Test.YtbeiciinppmekaaTb
import Derived.Test.YtbeiciinppmekaaLawb
import Derived.Test.YtbeiciinppmekaaProg
namespace Go.Proofs.Ytbeiciinppmekaa
open Go Go.Sx Go.Proofs
set_option maxRecDepth 100000
set_option linter.unusedSimpArgs false
set_option linter.unusedVariables false
theorem Dev.new_fine {s z : Int} (h1 : 1 ≤ s) (h2 : s ≤ 16) (h3 : 64 ≤ z) (h4 : z ≤ 1024) : (Dev.new s z).Fine := by
  have m1 : 1 * 64 ≤ s * z := Int.mul_le_mul h1 h3 (by omega) (by omega)
  have m2 : s * z ≤ 16 * 1024 := Int.mul_le_mul h2 h4 (by omega) (by omega)
  refine ⟨⟨by simp [Dev.new], by simp [Dev.new], ?_, ?_, by simp [Dev.new]⟩, ⟨Int.le_refl 0, ?_⟩, ⟨?_, ?_, ?_⟩⟩
  · show (s * z).toNat ≤ _; omega
  · show s.toNat ≤ _; omega
  · intro x hx
    have := List.eq_of_mem_replicate hx
    omega
  · show 1 ≤ z; omega
  · show z ≤ _; omega
  · show ((s.toNat : Nat) : Int) * z = ((s * z).toNat : Nat)
    rw [show ((s.toNat : Nat) : Int) = s by omega]; omega
def evState : Ev := ⟨0, 0, 0, 0, 0, 111, false, 0, 0, 0⟩
theorem evState_wf : evState.Wf := ⟨by decide, by decide, by decide, by decide, by decide, by decide, by decide, by decide, by decide⟩
/-- A log to which events were added: log, device, ID, error. -/
def awS : Nat → Lg × Dev × Int × Int
  | 0 => (openL 0 4 true (Dev.new 4 64), Dev.new 4 64, 0, 0)
  | i + 1 => (awS i).1.addUp (awS i).2.1 evState
def awB (x : Lg × Dev × Int × Int) : Bool := !x.1.ended && !x.2.1.down
theorem awB_all : ∀ i, i < 11 → awB (awS i) = true
  | 0, _ => by kernel_rfl
  | 1, _ => by kernel_rfl
  | 2, _ => by kernel_rfl
  | 3, _ => by kernel_rfl
  | 4, _ => by kernel_rfl
  | 5, _ => by kernel_rfl
  | 6, _ => by kernel_rfl
  | 7, _ => by kernel_rfl
  | 8, _ => by kernel_rfl
  | 9, _ => by kernel_rfl
  | 10, _ => by kernel_rfl
  | n + 11, h => by omega
theorem awR : ((awS 10).1.recs.length, (awS 10).1.full, (awS 10).2.2) = (7, false, (10 : Int), (0 : Int)) := by kernel_rfl
theorem awOk : ∀ i, i < 11 → ∃ R, Agree (awS i).1 R (awS i).2.1 ∧ R.S = 4 ∧ (awS i).2.1.Like (Dev.new 4 64)
  | 0, _ => ⟨_, openL_agree (Dev.new_fine (by decide) (by decide) (by decide) (by decide)) (by decide) (by decide), rfl, Dev.Like.refl _⟩
  | i + 1, h => by
    obtain ⟨R, a, hS, l⟩ := awOk i (by omega)
    have h1 := awB_all i (by omega)
    have h2 := awB_all (i + 1) h
    simp only [awB, Bool.and_eq_true, Bool.not_eq_true'] at h1 h2
    obtain ⟨e1, o, f, l2, e2⟩ := add_agree a h1.2 evState_wf
    have e3 : (awS (i + 1)).2.1 = (R.add (awS i).2.1 evState).2.1 := congrArg (·.1) e1
    rcases o with ⟨o, _⟩ | ⟨o, _⟩
    · exact ⟨_, by rw [e3]; exact o, by rw [e2.2.1]; exact hS, by rw [e3]; exact l2.trans l⟩
    · have : (awS (i + 1)).1 = Lg.gone := o
      rw [this] at h2
      exact absurd h2.1 (by decide)
theorem awake_ct (F : Fr) :
    Ct Try.prog F 7 [] [] (S := Unit) (fun _ => True) (fun _ => .bool true) (fun _ => []) := by
 have hf := Dev.new_fine (s := 4) (z := 64) (by decide) (by decide) (by decide) (by decide)
 have a1 : (awS 10).1.recs.length = 7 := congrArg (·.1) awR
 have a2 : (awS 10).1.full = false := congrArg (·.2.1) awR
 have a3 : (awS 10).2.2.1 = 10 := congrArg (·.2.2.1) awR
 have a4 : (awS 10).2.2.2 = 0 := congrArg (·.2.2.2) awR
 refine Ct.of 74 [] Try.func7 rfl rfl rfl rfl ?_
 refine GC.seq (GC.region ?_)
 refine G.q Gd.no (Qt.asg rfl) rfl ?_
 refine G.nil (GK.then (GC.seq (GC.region ?_)))
 refine G.ld Gd.no (Ld.call cal11 rfl rfl (.nil _) (fun F' hF => capacity_ct F' 4 64 (by omega) (by omega) (by omega) (by omega)) (fun _ _ => ?_))
 dsimp only [lCa, lNa]
 refine G.q Gd.no (Qt.mv rfl) rfl ?_
 refine G.q Gd.no (Qt.ext rfl rfl) rfl ?_
 refine G.q Gd.no (Qt.ext rfl rfl) rfl ?_
 refine G.q Gd.no (Qt.ext rfl rfl) rfl ?_
 refine G.q Gd.no (Qt.asg rfl) rfl ?_
 refine G.q Gd.no (Qt.asg rfl) rfl ?_
 refine G.q Gd.no (Qt.asg rfl) rfl ?_
 refine G.nil (GK.then (GC.seq (GC.region ?_)))
 refine G.ld Gd.no (Ld.call cal21 rfl rfl (.nil _) (fun F' hF => new_ct F' 4 64 (by omega) (by omega) (by omega) (by omega)) (fun ⟨q1, q2, q3⟩ _ => ?_))
 dsimp only [lCa, lNa]
 refine G.q Gd.no (Qt.mv rfl) rfl ?_
 refine G.q Gd.no (Qt.ext rfl rfl) rfl ?_
 refine G.q Gd.no (Qt.ext rfl rfl) rfl ?_
 refine G.q Gd.no (Qt.asg rfl) rfl ?_
 refine G.q Gd.no (Qt.asg rfl) rfl ?_
 refine G.nil (GK.then (GC.seq (GC.seq (GC.region ?_))))
 refine G.q Gd.no (Qt.mv rfl) rfl ?_
 refine G.q Gd.no (Qt.neI rfl rfl) rfl ?_
 refine G.q Gd.no (Qt.mv rfl) rfl ?_
 apply G.orb (seg := [_, _])
 exact rfl
 exact rfl
 exact rfl
 exact Gd.no
 exact rfl
 exact rfl
 ·intro g3; try simp only [sB0, sB1, sB2, sB3, sB4, sB5, sB6, sB7, sB8] at g3
  refine G.q (Gd.yes rfl rfl) (Qt.mv rfl) rfl ?_
  refine G.q (Gd.yes rfl rfl) (Qt.neI rfl rfl) rfl ?_
  refine G.nil (GK.seg (n := [_, _]) rfl rfl rfl (by first | exact Tks.all _ | exact Tks.skip (Tks.all _) | exact Tks.skip (Tks.skip (Tks.all _)) | exact Tks.skip (Tks.skip (Tks.skip (Tks.all _)))))
 refine G.q Gd.no (Qt.mv rfl) rfl ?_
 apply G.orb (seg := [_, _])
 exact rfl
 exact rfl
 exact rfl
 exact Gd.no
 exact rfl
 exact rfl
 ·intro g7; try simp only [sB0, sB1, sB2, sB3, sB4, sB5, sB6, sB7, sB8] at g7
  refine G.q (Gd.yes rfl rfl) (Qt.mv rfl) rfl ?_
  refine G.q (Gd.yes rfl rfl) (Qt.neI rfl rfl) rfl ?_
  refine G.nil (GK.seg (n := [_, _]) rfl rfl rfl (by first | exact Tks.all _ | exact Tks.skip (Tks.all _) | exact Tks.skip (Tks.skip (Tks.all _)) | exact Tks.skip (Tks.skip (Tks.skip (Tks.all _)))))
 refine G.q Gd.no (Qt.mv rfl) rfl ?_
 apply G.orb (seg := [_, _])
 exact rfl
 exact rfl
 exact rfl
 exact Gd.no
 exact rfl
 exact rfl
 ·intro g11; try simp only [sB0, sB1, sB2, sB3, sB4, sB5, sB6, sB7, sB8] at g11
  refine G.q (Gd.yes rfl rfl) (Qt.mv rfl) rfl ?_
  refine G.q (Gd.yes rfl rfl) (Qt.neI rfl rfl) rfl ?_
  refine G.nil (GK.seg (n := [_, _]) rfl rfl rfl (by first | exact Tks.all _ | exact Tks.skip (Tks.all _) | exact Tks.skip (Tks.skip (Tks.all _)) | exact Tks.skip (Tks.skip (Tks.skip (Tks.all _)))))
 refine G.q Gd.no (Qt.mv rfl) rfl ?_
 apply G.orb (seg := [_, _])
 exact rfl
 exact rfl
 exact rfl
 exact Gd.no
 exact rfl
 exact rfl
 ·intro g15; try simp only [sB0, sB1, sB2, sB3, sB4, sB5, sB6, sB7, sB8] at g15
  refine G.q (Gd.yes rfl rfl) (Qt.mv rfl) rfl ?_
  refine G.q (Gd.yes rfl rfl) (Qt.eqPn Try.underlying27 rfl rfl) rfl ?_
  refine G.nil (GK.seg (n := [_, _]) rfl rfl rfl (by first | exact Tks.all _ | exact Tks.skip (Tks.all _) | exact Tks.skip (Tks.skip (Tks.all _)) | exact Tks.skip (Tks.skip (Tks.skip (Tks.all _)))))
 refine G.nil (GK.then ?_)
 refine GC.condf rfl ?_
 refine GC.skip (GK.then (GC.seq (GC.region ?_)))
 refine G.q Gd.no (Qt.mv rfl) rfl ?_
 refine G.ld Gd.no (Ld.call cal17 rfl rfl (.nil _) (fun F' hF => goUp_ct F' q1 q2 q3 _ _ [] (Dev.new 4 64) (hF.own In.o) (hF.own In.o) hf (Nat.le_refl _) 0 4 true (by decide) rfl (by decide) (by decide)) (fun ⟨g, rb, rc, sp⟩ ⟨i1, i2, i3⟩ => ?_))
 dsimp only [lCa, lNa]
 refine G.q Gd.no (Qt.mv rfl) rfl ?_
 refine G.q Gd.no (Qt.ext rfl rfl) rfl ?_
 refine G.q Gd.no (Qt.ext rfl rfl) rfl ?_
 refine G.q Gd.no (Qt.asg rfl) rfl ?_
 refine G.q Gd.no (Qt.asg rfl) rfl ?_
 refine G.nil (GK.then (GC.seq (GC.seq (GC.region ?_))))
 refine G.q Gd.no (Qt.mv rfl) rfl ?_
 refine G.q Gd.no (Qt.eqPn Try.underlying28 rfl rfl) rfl ?_
 refine G.q Gd.no (Qt.mv rfl) rfl ?_
 apply G.orb (seg := [_, _])
 exact rfl
 exact rfl
 exact rfl
 exact Gd.no
 exact rfl
 exact rfl
 ·intro g3; try simp only [sB0, sB1, sB2, sB3, sB4, sB5, sB6, sB7, sB8] at g3
  refine G.q (Gd.yes rfl rfl) (Qt.mv rfl) rfl ?_
  refine G.q (Gd.yes rfl rfl) (Qt.neI rfl rfl) rfl ?_
  refine G.nil (GK.seg (n := [_, _]) rfl rfl rfl (by first | exact Tks.all _ | exact Tks.skip (Tks.all _) | exact Tks.skip (Tks.skip (Tks.all _)) | exact Tks.skip (Tks.skip (Tks.skip (Tks.all _)))))
 refine G.nil (GK.then ?_)
 refine GC.condf rfl ?_
 refine GC.skip (GK.then (GC.seq (GC.region ?_)))
 refine G.q Gd.no (Qt.asg rfl) rfl ?_
 refine G.nil (GK.then (GC.seq (GC.seq (GC.region ?_))))
 refine G.q Gd.no (Qt.asg rfl) rfl ?_
 refine G.nil (GK.then (GC.block ?_))
 refine GC.loop (S := Nat × Option Nat × Nat × List Value) (fun x => x.1 ≤ 10 ∧ (awS x.1).1.recs.length * 11 + x.2.2.2.length = x.2.2.1 * 11 ∧ (x.2.1 = none → (awS x.1).1.recs = [] ∧ x.2.2.2 = [])) (fun x => 10 - x.1)
  (fun x => [(6, .pointer (some ⟨g, 0, none⟩)), (7, .int .i64 (awS x.1).2.2.2), (8, .int .u16 (awS x.1).2.2.1), (9, .int .i64 (x.1 : Int))]) (fun x => [(some g, .cells (lgC (awS x.1).1 (some ⟨q1, 0, none⟩) x.2.1 x.2.2.1) 85), (x.2.1, .cells ((awS x.1).1.recs.flatMap recC ++ x.2.2.2) 90), (some q1, .cells (devC (awS x.1).2.1 q2 q3 ((4 : Int) * 64).toNat (4 : Int).toNat) 81), (some q2, .cells (vI .u8 (awS x.1).2.1.bytes ++ []) 5), (some q3, .cells (vI .i64 (awS x.1).2.1.wear ++ []) 3)]) (0, rb, rc, sp) ?_ ?_ ?_ ?_
 ·exact ⟨Nat.zero_le _, i1, i2⟩
 ·exact ⟨rfl, rfl, rfl, rfl, trivial⟩
 ·exact ⟨_, (Tks.c (Tks.c (Tks.c (Tks.c (Tks.c (.nil _))))))⟩
 intro ⟨i, rb, rc, sp⟩ ⟨h1, h2, h3⟩
 simp only at h1 h2 h3
 refine GC.seq (GC.seq (GC.region ?_))
 refine G.q Gd.no (Qt.mv rfl) rfl ?_
 refine G.q Gd.no (Qt.lss rfl rfl) rfl ?_
 refine G.nil (GK.then ?_)
 refine GC.condb rfl (fun c2 => ?_) (fun c2 => ?_)
 ·try simp only [sB0, sB1, sB2, sB3, sB4, sB5, sB6, sB7, sB8] at c2
  obtain ⟨R, ag, hRS, lk⟩ := awOk i (by omega)
  have hup := awB_all i (by omega)
  have hup2 := awB_all (i + 1) (by omega)
  simp only [awB, Bool.and_eq_true, Bool.not_eq_true'] at hup hup2
  have hrl := recs_len_bd ag (by omega)
  have hn : (awS i).2.1.n ≤ ((4 : Int) * 64).toNat := by rw [lk.1]; exact Nat.le_refl _
  have heq : (awS i).1.addUp (awS i).2.1 evState = awS (i + 1) := rfl
  have hdO : dOf (awS (i + 1)).1 q1 = some ⟨q1, 0, none⟩ := by unfold dOf; rw [hup2.1]; rfl
  refine GC.skip (GK.then (GC.seq (GC.block (GC.region ?_))))
  refine G.q Gd.no (Qt.mv rfl) rfl ?_
  refine G.q Gd.no (Qt.buildS Try.underlying40 pl40 ze40 (.cons rfl rfl (Cl.one rfl) rfl (SetM.cons SetAt.k5 (.nil _ _)) (.nil _))) rfl ?_
  refine G.ld Gd.no (Ld.call cal15 rfl rfl (Tks.c (Tks.c (Tks.c (Tks.c (Tks.c (.nil _)))))) (fun F' hF => addUp_ct F' g q1 q2 q3 _ _ [] [] rb rc sp (awS i).1 (awS i).2.1 ag.fine hn hup.2 hup.1 h2 h3 hrl ag.yf evState evState_wf) (fun ⟨rb2, rc2, sp2⟩ h4 => ?_))
  dsimp only [lCa, lNa]
  simp only [heq, hdO] at h4 ⊢
  refine G.q Gd.no (Qt.mv rfl) rfl ?_
  refine G.q Gd.no (Qt.ext rfl rfl) rfl ?_
  refine G.q Gd.no (Qt.ext rfl rfl) rfl ?_
  refine G.q Gd.no (Qt.asg rfl) rfl ?_
  refine G.q Gd.no (Qt.asg rfl) rfl ?_
  refine G.nil (GK.blockn (GK.then (GC.region ?_)))
  refine G.q Gd.no (Qt.mv rfl) rfl ?_
  refine G.q Gd.no (Qt.add rfl rfl (by first | exact i64_id (by omega) (by omega) | exact rfl)) rfl ?_
  refine G.q Gd.no (Qt.asg rfl) rfl ?_
  refine G.nil ?_
  refine GK.head (i + 1, rb2, rc2, sp2) ?_ ?_ ?_ ?_
  ·simp only; omega
  ·exact ⟨by simp only; omega, h4.1, h4.2⟩
  ·exact ⟨rfl, rfl, rfl, rfl, trivial⟩
  ·exact ⟨_, (Tks.c (Tks.c (Tks.c (Tks.c (Tks.c (.nil _))))))⟩
 ·try simp only [sB0, sB1, sB2, sB3, sB4, sB5, sB6, sB7, sB8] at c2
  obtain rfl : i = 10 := by omega
  rw [a3, a4]
  refine GC.exit (GK.thene (GK.thene (GK.blocke (GK.then (GC.seq (GC.region ?_))))))
  refine G.q Gd.no (Qt.mv rfl) rfl ?_
  refine G.q Gd.no (Qt.eqI rfl rfl) rfl ?_
  refine G.q Gd.no (Qt.mv rfl) rfl ?_
  apply G.andb (seg := [_, _])
  exact rfl
  exact rfl
  exact rfl
  exact Gd.no
  exact rfl
  exact rfl
  ·intro g3; try simp only [sB0, sB1, sB2, sB3, sB4, sB5, sB6, sB7, sB8] at g3
   refine G.q (Gd.yes rfl rfl) (Qt.mv rfl) rfl ?_
   refine G.q (Gd.yes rfl rfl) (Qt.eqI rfl rfl) rfl ?_
   refine G.nil (GK.seg (n := [_, _]) rfl rfl rfl (by first | exact Tks.all _ | exact Tks.skip (Tks.all _) | exact Tks.skip (Tks.skip (Tks.all _)) | exact Tks.skip (Tks.skip (Tks.skip (Tks.all _)))))
  refine G.q Gd.no (Qt.mv rfl) rfl ?_
  apply G.andb (seg := [_, _, _])
  exact rfl
  exact rfl
  exact rfl
  exact Gd.no
  exact rfl
  exact rfl
  ·intro g7; try simp only [sB0, sB1, sB2, sB3, sB4, sB5, sB6, sB7, sB8] at g7
   refine G.q (Gd.yes rfl rfl) (Qt.mv rfl) rfl ?_
   refine G.ld (Gd.yes rfl rfl) (Ld.call cal36 rfl rfl (.nil _) (fun F' hF => len_ct F' _ _ _ _ _ (hF.own In.o)) (fun _ _ => ?_))
   dsimp only [lCa, lNa]
   rw [a1]
   refine G.q (Gd.yes rfl rfl) (Qt.eqI rfl rfl) rfl ?_
   refine G.nil (GK.seg (n := [_, _, _]) rfl rfl rfl (by first | exact Tks.all _ | exact Tks.skip (Tks.all _) | exact Tks.skip (Tks.skip (Tks.all _)) | exact Tks.skip (Tks.skip (Tks.skip (Tks.all _)))))
  refine G.q Gd.no (Qt.mv rfl) rfl ?_
  apply G.andb (seg := [_, _, _])
  exact rfl
  exact rfl
  exact rfl
  exact Gd.no
  exact rfl
  exact rfl
  ·intro g12; try simp only [sB0, sB1, sB2, sB3, sB4, sB5, sB6, sB7, sB8] at g12
   refine G.q (Gd.yes rfl rfl) (Qt.mv rfl) rfl ?_
   refine G.ld (Gd.yes rfl rfl) (Ld.call cal37 rfl rfl (.nil _) (fun F' hF => full_ct F' _ _ _ _ _ (hF.own In.o)) (fun _ _ => ?_))
   dsimp only [lCa, lNa]
   rw [a2]
   refine G.q (Gd.yes rfl rfl) (Qt.not rfl) rfl ?_
   refine G.nil (GK.seg (n := [_, _, _]) rfl rfl rfl (by first | exact Tks.all _ | exact Tks.skip (Tks.all _) | exact Tks.skip (Tks.skip (Tks.all _)) | exact Tks.skip (Tks.skip (Tks.skip (Tks.all _)))))
  refine G.q Gd.no (Qt.asg rfl) rfl ?_
  refine G.nil (GK.then (GC.ret ?_))
  refine GK.ret (rs := [.tmp 0]) rfl (.tmp rfl .nil) () ?_ ?_ (.nil _)
  ·trivial
  ·rfl
end Go.Proofs.Ytbeiciinppmekaa
