/-
  baseboardlaw09.EventlogOpens returns true; its conditions are its premises: the bytes and numbers lie in memory.
-/
import Derived.Test.YtbeiciinppmekaaTb
import Derived.Test.YtbeiciinppmekaaLawd
import Derived.Test.YtbeiciinppmekaaProg
namespace Go.Proofs.Ytbeiciinppmekaa
open Go Go.Sx Go.Proofs
set_option maxRecDepth 100000
set_option linter.unusedSimpArgs false
set_option linter.unusedVariables false
/-- What holds of the two logs and their devices between the steps; D0 is of the devices' shape, S the log's sectors. -/
structure Pg (D0 : Dev) (S : Int) (Y : Lg) (R : Rl) (D : Dev) : Prop where
  fine : D.Fine
  like : D.Like D0
  rS : R.S = S
  rf : R.Fine D
  st : (Agree Y R D ∧ D.down = false) ∨ (Y = Lg.gone ∧ R.ended = true ∧ R.refused = false)
theorem Pg.events {D0 : Dev} {S : Int} {Y : Lg} {R : Rl} {D : Dev} (h : Pg D0 S Y R D) : Y.events = R.records D := by
  rcases h.st with ⟨a, _⟩ | ⟨h1, h2, _⟩
  · exact a.events
  · rw [h1]; unfold Rl.records; rw [if_pos h2]; rfl
theorem Pg.full {D0 : Dev} {S : Int} {Y : Lg} {R : Rl} {D : Dev} (h : Pg D0 S Y R D) : Y.full = R.refused := by
  rcases h.st with ⟨a, _⟩ | ⟨h1, _, h2⟩
  · exact a.full
  · rw [h1, h2]; rfl
theorem Pg.len {D0 : Dev} {S : Int} {Y : Lg} {R : Rl} {D : Dev} (h : Pg D0 S Y R D) (hn : S ≤ 255) : Y.recs.length ≤ 16777216 := by
  rcases h.st with ⟨a, _⟩ | ⟨h1, _, _⟩
  · exact recs_len_bd a (by rw [h.rS]; exact hn)
  · rw [h1]; exact Nat.zero_le _
theorem Pg.gf {D0 : Dev} {S : Int} {Y : Lg} {R : Rl} {D : Dev} (h : Pg D0 S Y R D) : Y.ended = false → Y.Fine D := by
  intro he
  rcases h.st with ⟨a, _⟩ | ⟨h1, _, _⟩
  · exact a.yf
  · rw [h1] at he; cases he
theorem Pg.add {D0 : Dev} {S : Int} {Y : Lg} {R : Rl} {D : Dev} (h : Pg D0 S Y R D) {e : Ev} (wf : e.Wf) : (Y.add D e).2 = (R.add D e).2 ∧ Pg D0 S (Y.add D e).1 (R.add D e).1 (R.add D e).2.1 := by
  have hl := radd_last (R := R) (D := D) (e := e)
  have hrf : ∀ {E : Dev}, E.Like D → (R.add D e).1.Fine E := fun l => ⟨by rw [hl.1]; exact h.rf.f0, by rw [hl.2.1]; exact h.rf.S2, by rw [hl.1, hl.2.1, l.2.1]; exact h.rf.fS, by rw [l.2.2]; exact h.rf.sz, by rw [hl.2.2]; exact h.rf.l0, by rw [hl.2.2]; exact h.rf.l1⟩
  rcases h.st with ⟨a, hd⟩ | ⟨h1, h2, h3⟩
  · obtain ⟨e1, o, f, l, _⟩ := add_agree a hd wf
    have e2 : Y.add D e = Y.addUp D e := by unfold Lg.add; rw [if_neg (by simp [a.ye, hd])]
    rw [e2]
    refine ⟨e1, f, l.trans h.like, by rw [hl.2.1]; exact h.rS, hrf l, ?_⟩
    rcases o with o | ⟨o1, o2, o3, _⟩
    · exact .inl o
    · exact .inr ⟨o1, o2, o3⟩
  · have e1 : Y.add D e = (Lg.gone, D, 0, 10) := by unfold Lg.add; rw [if_pos (by rw [h1]; rfl)]
    have e2 : R.add D e = (R.endR, D, 0, 10) := by unfold Rl.add; rw [if_pos (by rw [h2]; rfl)]
    rw [e1, e2]
    exact ⟨rfl, h.fine, h.like, h.rS, ⟨h.rf.f0, h.rf.S2, h.rf.fS, h.rf.sz, h.rf.l0, h.rf.l1⟩, .inr ⟨rfl, rfl, rfl⟩⟩
theorem Pg.opened {D0 D : Dev} {first S : Int} {over : Bool} (f : D.Fine) (l : D.Like D0) (hd : D.down = false) (hno : noRoom D.nw first S = false) (hm : 64 ≤ D.size) : Pg D0 S (openL first S over D) (Rl.open0 first S over) D := by
  have a := openL_agree f (over := over) hno hm
  exact ⟨f, l, rfl, a.rf, .inl ⟨a, hd⟩⟩
theorem Pg.dOf {D0 D : Dev} {first S : Int} {over : Bool} (h : Pg D0 S (openL first S over D) (Rl.open0 first S over) D) (q : Nat) : Go.Proofs.Ytbeiciinppmekaa.dOf (openL first S over D) q = some ⟨q, 0, none⟩ := by
  rcases h.st with ⟨a, _⟩ | ⟨_, h2, _⟩
  · unfold Go.Proofs.Ytbeiciinppmekaa.dOf; rw [a.ye]; rfl
  · cases h2
/-- A device that is not armed stays up. -/
theorem Dev.step_left0 {D : Dev} (h : D.left = 0) (hd : D.down = false) : D.step.left = 0 ∧ D.step.down = false := by
  unfold Dev.step
  rw [if_neg (by omega)]
  exact ⟨h, hd⟩
theorem Dev.progL_up : ∀ (xs : List Int) (D : Dev) (p : Nat), D.left = 0 → D.down = false → (D.progL p xs).1.down = false
  | [], D, p, _, hd => hd
  | x :: xs, D, p, h, hd => by
    have hs := D.step_left0 h hd
    unfold Dev.progL
    rw [if_neg (by simp [hs.2])]
    exact Dev.progL_up xs _ _ hs.1 hs.2
theorem Dev.program_up {D : Dev} (h : D.left = 0) (hd : D.down = false) (a : Int) (xs : List Int) : (D.program a xs).1.down = false := by
  unfold Dev.program
  split
  · exact hd
  · split
    · exact Dev.progL_up xs D _ h hd
    · exact hd
/-- Dice, rolled k times for an event. -/
def Di.evN (D : Di) : Nat → Di
  | 0 => D
  | k + 1 => (D.evN k).event.2
theorem Di.event_l (D : Di) : D.event.2.l = D.l := by
  unfold Di.event
  dsimp only
  simp only [Di.bool_l, Di.byte_l, Di.next_l]
theorem Di.evN_succ (D : Di) (k : Nat) : D.evN (k + 1) = (D.evN k).event.2 := by rw [Di.evN]
theorem Di.evN_l (D : Di) : ∀ k, (D.evN k).l = D.l
  | 0 => by rw [Di.evN]
  | k + 1 => by rw [Di.evN_succ, Di.event_l, Di.evN_l D k]
set_option maxHeartbeats 1000000 in
theorem opensNo_ct (F : Fr) (A : Option Addr) (bs : List Int) (bc : Nat) (hA : VwF F A (vI .u8 bs)) (hbc : bs.length ≤ bc) (first sectors size : Int) (over : Bool) (B : Option Addr) (l : List Int) (c : Nat) (hB : VwF F B (vI .i64 l)) (hf0 : -9223372036854775808 ≤ first) (hf1 : first ≤ 9223372036854775807) (hno : noRoom (3 + sectors % 3).toNat (first % 4 - 1) (1 + sectors % 3 + first.tdiv 4 % 3) = true) :
    Ct Try.prog F 4 [.slice A bs.length bc, .int .i64 first, .int .i64 sectors, .int .i64 size, .bool over, .slice B l.length c] [] (S := Unit) (fun _ => True) (fun _ => .bool true) (fun _ => []) := by
 have hq4 : -9223372036854775808 ≤ first.tdiv 4 ∧ first.tdiv 4 ≤ 9223372036854775807 := by have h1 := Int.tdiv_le_tdiv (a := first) (b := 9223372036854775807) (c := 4) (by decide) hf1; have h2 := Int.tdiv_le_tdiv (a := -9223372036854775808) (b := first) (c := 4) (by decide) hf0; have e1 : Int.tdiv 9223372036854775807 4 ≤ 9223372036854775807 := (by decide); have e2 : -9223372036854775808 ≤ Int.tdiv (-9223372036854775808) 4 := (by decide); exact ⟨Int.le_trans e2 h2, Int.le_trans h1 e1⟩
 refine Ct.of 163 [(0, _), (1, _), (2, _), (3, _), (4, _), (5, _)] Try.func4 rfl rfl rfl rfl ?_
 refine GC.seq (GC.region ?_)
 refine G.q Gd.no (Qt.asg rfl) rfl ?_
 refine G.nil (GK.then (GC.seq (GC.seq (GC.region ?_))))
 refine G.q Gd.no (Qt.mv rfl) rfl ?_
 refine G.q Gd.no (Qt.lenS (rt := 0) Try.underlying53 rfl) rfl ?_
 refine G.q Gd.no (Qt.gtr rfl rfl) rfl ?_
 refine G.q Gd.no (Qt.mv rfl) rfl ?_
 apply G.orb (seg := [_, _, _])
 exact rfl
 exact rfl
 exact rfl
 exact Gd.no
 exact rfl
 exact rfl
 ·intro g4; try simp only [sB0, sB1, sB2, sB3, sB4, sB5, sB6, sB7, sB8] at g4
  refine G.q (Gd.yes rfl rfl) (Qt.mv rfl) rfl ?_
  refine G.ld (Gd.yes rfl rfl) (Ld.call cal6 rfl rfl (.nil _) (fun F' hF => mlight_ct F' B _ _) (fun _ _ => ?_))
  dsimp only [lCa, lNa]
  refine G.q (Gd.yes rfl rfl) (Qt.not rfl) rfl ?_
  refine G.nil (GK.seg (n := [_, _, _]) rfl rfl rfl (by first | exact Tks.all _ | exact Tks.skip (Tks.all _) | exact Tks.skip (Tks.skip (Tks.all _)) | exact Tks.skip (Tks.skip (Tks.skip (Tks.all _)))))
 refine G.nil (GK.then ?_)
 refine GC.condb rfl (fun c0 => ?_) (fun c0 => ?_)
 ·try simp only [sB0, sB1, sB2, sB3, sB4, sB5, sB6, sB7, sB8] at c0
  refine GC.seq (GC.region ?_)
  refine G.ld Gd.no (Ld.call cal7 rfl rfl (.nil _) (fun F' hF => awake_ct F') (fun _ _ => ?_))
  dsimp only [lCa, lNa]
  refine G.q Gd.no (Qt.asg rfl) rfl ?_
  refine G.nil (GK.then (GC.ret (GK.thenr ?_)))
  refine GK.ret (rs := [.tmp 12]) rfl (.tmp rfl .nil) () ?_ ?_ (.nil _)
  ·trivial
  ·rfl
 ·try simp only [sB0, sB1, sB2, sB3, sB4, sB5, sB6, sB7, sB8] at c0
  have hll : l.length ≤ 600 := by omega
  refine GC.skip (GK.then (GC.seq (GC.region ?_)))
  refine G.q Gd.no (Qt.mv rfl) rfl ?_
  refine G.q Gd.no (Qt.mv rfl) rfl ?_
  refine G.ld Gd.no (Ld.call cal8 rfl rfl (.nil _) (fun F' hF => geometry_ct F' _ _) (fun _ _ => ?_))
  dsimp only [lCa, lNa]
  obtain ⟨n, hn⟩ : ∃ n, 2 + sectors % 3 = n := ⟨_, rfl⟩
  obtain ⟨m, hm⟩ : ∃ m, 64 + size % 40 = m := ⟨_, rfl⟩
  rw [hn, hm]
  obtain ⟨s, hs⟩ : ∃ s, n + 1 = s := ⟨_, rfl⟩
  have hs3 : 3 + sectors % 3 = s := by omega
  have hn2 : 3 ≤ s ∧ s ≤ 5 := by omega
  have hm2 : 64 ≤ m ∧ m ≤ 103 := by omega
  have hm64 : 64 ≤ m := by omega
  have hfn := Dev.new_fine (s := s) (z := m) (by omega) (by omega) (by omega) (by omega)
  have hsm : 3 * 64 ≤ s * m := Int.mul_le_mul hn2.1 hm2.1 (by omega) (by omega)
  have hsm2 : s * m ≤ 5 * 103 := Int.mul_le_mul hn2.2 hm2.2 (by omega) (by omega)
  have hnm : 0 < (s * m).toNat := by omega
  rw [hs3] at hno
  refine G.q Gd.no (Qt.mv rfl) rfl ?_
  refine G.q Gd.no (Qt.ext rfl rfl) rfl ?_
  refine G.q Gd.no (Qt.ext rfl rfl) rfl ?_
  refine G.q Gd.no (Qt.asg rfl) rfl ?_
  refine G.q Gd.no (Qt.asg rfl) rfl ?_
  refine G.nil (GK.then (GC.seq (GC.region ?_)))
  refine G.q Gd.no (Qt.mv rfl) rfl ?_
  refine G.q Gd.no (Qt.add rfl rfl (by first | exact i64_id (by omega) (by omega) | exact rfl)) rfl ?_
  rw [hs]
  refine G.q Gd.no (Qt.mv rfl) rfl ?_
  refine G.ld Gd.no (Ld.call cal21 rfl rfl (.nil _) (fun F' hF => new_ct F' s m (by omega) (by omega) (by omega) (by omega)) (fun ⟨q1, q2, q3⟩ _ => ?_))
  dsimp only [lCa, lNa]
  refine G.q Gd.no (Qt.mv rfl) rfl ?_
  refine G.q Gd.no (Qt.ext rfl rfl) rfl ?_
  refine G.q Gd.no (Qt.ext rfl rfl) rfl ?_
  refine G.q Gd.no (Qt.asg rfl) rfl ?_
  refine G.q Gd.no (Qt.asg rfl) rfl ?_
  refine G.nil (GK.then (GC.seq (GC.region ?_)))
  refine G.q Gd.no (Qt.mv rfl) rfl ?_
  refine G.q Gd.no (Qt.add rfl rfl (by first | exact i64_id (by omega) (by omega) | exact rfl)) rfl ?_
  rw [hs]
  refine G.q Gd.no (Qt.mv rfl) rfl ?_
  refine G.ld Gd.no (Ld.call cal22 rfl rfl (.nil _) (fun F' hF => rnew_ct F' s m (by omega) (by omega) (by omega) (by omega)) (fun ⟨r1, r2, r3, rs⟩ _ => ?_))
  dsimp only [lCa, lNa]
  refine G.q Gd.no (Qt.mv rfl) rfl ?_
  refine G.q Gd.no (Qt.ext rfl rfl) rfl ?_
  refine G.q Gd.no (Qt.ext rfl rfl) rfl ?_
  refine G.q Gd.no (Qt.asg rfl) rfl ?_
  refine G.q Gd.no (Qt.asg rfl) rfl ?_
  refine G.nil (GK.then (GC.seq (GC.seq (GC.region ?_))))
  refine G.q Gd.no (Qt.mv rfl) rfl ?_
  refine G.q Gd.no (Qt.eqPn Try.underlying27 rfl rfl) rfl ?_
  refine G.q Gd.no (Qt.mv rfl) rfl ?_
  apply G.orb (seg := [_, _])
  exact rfl
  exact rfl
  exact rfl
  exact Gd.no
  exact rfl
  exact rfl
  ·intro g3; try simp only [sB0, sB1, sB2, sB3, sB4, sB5, sB6, sB7, sB8] at g3
   refine G.q (Gd.yes rfl rfl) (Qt.mv rfl) rfl ?_
   refine G.q (Gd.yes rfl rfl) (Qt.neI rfl rfl) rfl ?_
   refine G.nil (GK.seg (n := [_, _]) rfl rfl rfl (by first | exact Tks.all _ | exact Tks.skip (Tks.all _) | exact Tks.skip (Tks.skip (Tks.all _)) | exact Tks.skip (Tks.skip (Tks.skip (Tks.all _)))))
  refine G.nil (GK.then ?_)
  refine GC.condf rfl ?_
  refine GC.skip (GK.then (GC.seq (GC.region ?_)))
  refine G.q Gd.no (Qt.mv rfl) rfl ?_
  refine G.q Gd.no (Qt.mv rfl) rfl ?_
  refine G.q Gd.no (Qt.lenS (rt := 0) Try.underlying53 rfl) rfl ?_
  refine G.q Gd.no (Qt.mv rfl) rfl ?_
  refine G.q Gd.no (Qt.add rfl rfl (by first | exact i64_id (by omega) (by omega) | exact rfl)) rfl ?_
  rw [hs]
  refine G.q Gd.no (Qt.mv rfl) rfl ?_
  refine G.q Gd.no (Qt.mul rfl rfl (by exact i64_id (by omega) (by omega))) rfl ?_
  refine G.q Gd.no (Qt.min2 rfl rfl) rfl ?_
  refine G.q Gd.no (Qt.slH Try.underlying53 z5 rfl rfl (by omega) (by omega) rfl) rfl ?_
  obtain ⟨xs, hxs⟩ : ∃ xs, bs.take (min (bs.length : Int) (s * m)).toNat = xs := ⟨_, rfl⟩
  have hxl : (min (bs.length : Int) (s * m)).toNat = xs.length := by rw [← hxs, List.length_take]; omega
  have hxv : VwF F A (vI .u8 xs) := by rw [← hxs]; have := hA.take (n := (min (bs.length : Int) (s * m)).toNat); simpa [vI, List.map_take] using this
  have hxm : (xs.length : Int) ≤ s * m := by rw [← hxl]; omega
  rw [hxl]
  refine G.q Gd.no (Qt.asg rfl) rfl ?_
  refine G.nil (GK.then (GC.seq (GC.seq (GC.region ?_))))
  refine G.q Gd.no (Qt.mv rfl) rfl ?_
  refine G.q Gd.no (Qt.mv rfl) rfl ?_
  refine G.ld Gd.no (Ld.call cal23 rfl rfl (Tks.c (Tks.c (.nil _))) (fun F' hF => program_ct F' q1 q2 q3 _ _ [] (Dev.new s m) hfn.ok 0 A _ xs (hxv.mono hF) (by omega)) (fun _ _ => ?_))
  dsimp only [lCa, lNa]
  obtain ⟨E, e0, hP⟩ : ∃ E e0, (Dev.new s m).program 0 xs = (E, e0) := ⟨_, _, rfl⟩
  obtain ⟨fE, lE⟩ := Dev.program_fine hfn 0 xs
  have wE := Dev.program_wear (Dev.new s m) 0 xs
  have hup := Dev.program_up (D := Dev.new s m) rfl rfl 0 xs
  rw [hP] at fE lE wE hup ⊢
  dsimp only at fE lE wE hup ⊢
  rw [← wE]
  have hnw : E.nw = s.toNat := lE.2.1
  have hEn : E.n = (s * m).toNat := lE.1
  have hEs : E.size = m := lE.2.2
  refine G.q Gd.no (Qt.mv rfl) rfl ?_
  refine G.q Gd.no (Qt.mv rfl) rfl ?_
  refine G.ld Gd.no (Ld.call cal24 rfl rfl (Tks.c (Tks.c (.nil _))) (fun F' hF => rprogram_ct F' r1 r2 r3 _ _ rs (Dev.new s m) hfn.ok hfn.ok2 0 A _ xs (hxv.mono hF) (by omega)) (fun _ _ => ?_))
  dsimp only [lCa, lNa]
  rw [hP]
  dsimp only
  refine G.q Gd.no (Qt.neI rfl rfl) rfl ?_
  rw [ne_self]
  refine G.nil (GK.then ?_)
  refine GC.condf rfl ?_
  refine GC.skip (GK.then (GC.seq (GC.region ?_)))
  refine G.q Gd.no (Qt.mv rfl) rfl ?_
  refine G.ld Gd.no (Ld.call cal10 rfl rfl (.nil _) (fun F' hF => mod_ct F' first 4 (by omega) (by omega)) (fun _ _ => ?_))
  dsimp only [lCa, lNa]
  refine G.q Gd.no (Qt.sub rfl rfl (by first | exact i64_id (by omega) (by omega) | exact rfl)) rfl ?_
  refine G.q Gd.no (Qt.asg rfl) rfl ?_
  obtain ⟨k, hk⟩ : ∃ k, first % 4 - 1 = k := ⟨_, rfl⟩
  rw [hk] at hno ⊢
  have hkb : -1 ≤ k ∧ k ≤ 2 := by omega
  refine G.nil (GK.then (GC.seq (GC.region ?_)))
  refine G.q Gd.no (Qt.mv rfl) rfl ?_
  refine G.q Gd.no (Qt.sub rfl rfl (by first | exact i64_id (by omega) (by omega) | exact rfl)) rfl ?_
  refine G.q Gd.no (Qt.mv rfl) rfl ?_
  refine G.q Gd.no (Qt.quo (r := first.tdiv 4) rfl rfl (by omega) (i64_id hq4.1 hq4.2)) rfl ?_
  refine G.ld Gd.no (Ld.call cal10 rfl rfl (.nil _) (fun F' hF => mod_ct F' (first.tdiv 4) 3 (by omega) (by omega)) (fun _ _ => ?_))
  dsimp only [lCa, lNa]
  refine G.q Gd.no (Qt.add rfl rfl (by first | exact i64_id (by omega) (by omega) | exact rfl)) rfl ?_
  refine G.q Gd.no (Qt.asg rfl) rfl ?_
  obtain ⟨cc, hcc⟩ : ∃ cc, n - 1 + first.tdiv 4 % 3 = cc := ⟨_, rfl⟩
  rw [show 1 + sectors % 3 + first.tdiv 4 % 3 = cc by omega] at hno
  rw [hcc]
  have hcb : 1 ≤ cc ∧ cc ≤ 5 := by omega
  refine G.nil (GK.then (GC.seq (GC.region ?_)))
  refine G.q Gd.no (Qt.mv rfl) rfl ?_
  refine G.q Gd.no (Qt.mv rfl) rfl ?_
  refine G.q Gd.no (Qt.mv rfl) rfl ?_
  refine G.q Gd.no (Qt.mv rfl) rfl ?_
  refine G.ld Gd.no (Ld.call cal17 rfl rfl (.nil _) (fun F' hF => goNo_ct F' q1 q2 q3 _ _ E (hF.own In.o) fE.ok k cc over (by rw [hnw]; exact hno)) (fun _ _ => ?_))
  dsimp only [lCa, lNa]
  refine G.q Gd.no (Qt.mv rfl) rfl ?_
  refine G.q Gd.no (Qt.ext rfl rfl) rfl ?_
  refine G.q Gd.no (Qt.ext rfl rfl) rfl ?_
  refine G.q Gd.no (Qt.asg rfl) rfl ?_
  refine G.q Gd.no (Qt.asg rfl) rfl ?_
  refine G.nil (GK.then (GC.seq (GC.region ?_)))
  refine G.q Gd.no (Qt.mv rfl) rfl ?_
  refine G.q Gd.no (Qt.mv rfl) rfl ?_
  refine G.q Gd.no (Qt.mv rfl) rfl ?_
  refine G.q Gd.no (Qt.mv rfl) rfl ?_
  refine G.ld Gd.no (Ld.call cal25 rfl rfl (.nil _) (fun F' hF => ropenNo_ct F' r1 r2 r3 _ _ E (hF.own In.o) fE.ok k cc over (by rw [hnw]; exact hno)) (fun _ _ => ?_))
  dsimp only [lCa, lNa]
  refine G.q Gd.no (Qt.mv rfl) rfl ?_
  refine G.q Gd.no (Qt.ext rfl rfl) rfl ?_
  refine G.q Gd.no (Qt.ext rfl rfl) rfl ?_
  refine G.q Gd.no (Qt.asg rfl) rfl ?_
  refine G.q Gd.no (Qt.asg rfl) rfl ?_
  refine G.nil (GK.then (GC.seq (GC.seq (GC.region ?_))))
  refine G.q Gd.no (Qt.mv rfl) rfl ?_
  refine G.q Gd.no (Qt.mv rfl) rfl ?_
  refine G.q Gd.no (Qt.neI rfl rfl) rfl ?_
  rw [ne_self]
  refine G.q Gd.no (Qt.mv rfl) rfl ?_
  apply G.orb (seg := [_, _, _, _, _])
  exact rfl
  exact rfl
  exact rfl
  exact Gd.no
  exact rfl
  exact rfl
  ·intro g4; try simp only [sB0, sB1, sB2, sB3, sB4, sB5, sB6, sB7, sB8] at g4
   refine G.q (Gd.yes rfl rfl) (Qt.mv rfl) rfl ?_
   refine G.q (Gd.yes rfl rfl) (Qt.nePn Try.underlying28 rfl rfl) rfl ?_
   refine G.q (Gd.yes rfl rfl) (Qt.mv rfl) rfl ?_
   refine G.q (Gd.yes rfl rfl) (Qt.eqI rfl rfl) rfl ?_
   refine G.q (Gd.yes rfl rfl) (Qt.neB Try.underlying4 rfl rfl) rfl ?_
   refine G.nil (GK.seg (n := [_, _, _, _, _]) rfl rfl rfl (by first | exact Tks.all _ | exact Tks.skip (Tks.all _) | exact Tks.skip (Tks.skip (Tks.all _)) | exact Tks.skip (Tks.skip (Tks.skip (Tks.all _)))))
  refine G.nil (GK.then ?_)
  refine GC.condf rfl ?_
  refine GC.skip (GK.then (GC.seq (GC.seq (GC.region ?_))))
  refine G.q Gd.no (Qt.mv rfl) rfl ?_
  refine G.q Gd.no (Qt.eqPn Try.underlying28 rfl rfl) rfl ?_
  refine G.nil (GK.then ?_)
  refine GC.condt rfl ?_
  refine GC.seq (GC.region ?_)
  refine G.ld Gd.no (Ld.call cal7 rfl rfl (.nil _) (fun F' hF => awake_ct F') (fun _ _ => ?_))
  dsimp only [lCa, lNa]
  refine G.q Gd.no (Qt.asg rfl) rfl ?_
  refine G.nil (GK.then (GC.ret (GK.thenr ?_)))
  refine GK.ret (rs := [.tmp 12]) rfl (.tmp rfl .nil) () ?_ ?_ (.nil _)
  ·trivial
  ·rfl
set_option maxHeartbeats 1000000 in
theorem opensUp_ct (F : Fr) (A : Option Addr) (bs : List Int) (bc : Nat) (hA : VwF F A (vI .u8 bs)) (hbc : bs.length ≤ bc) (first sectors size : Int) (over : Bool) (B : Option Addr) (l : List Int) (c : Nat) (hB : VwF F B (vI .i64 l)) (hf0 : -9223372036854775808 ≤ first) (hf1 : first ≤ 9223372036854775807) (hno : noRoom (3 + sectors % 3).toNat (first % 4 - 1) (1 + sectors % 3 + first.tdiv 4 % 3) = false) :
    Ct Try.prog F 4 [.slice A bs.length bc, .int .i64 first, .int .i64 sectors, .int .i64 size, .bool over, .slice B l.length c] [] (S := Unit) (fun _ => True) (fun _ => .bool true) (fun _ => []) := by
 have hq4 : -9223372036854775808 ≤ first.tdiv 4 ∧ first.tdiv 4 ≤ 9223372036854775807 := by have h1 := Int.tdiv_le_tdiv (a := first) (b := 9223372036854775807) (c := 4) (by decide) hf1; have h2 := Int.tdiv_le_tdiv (a := -9223372036854775808) (b := first) (c := 4) (by decide) hf0; have e1 : Int.tdiv 9223372036854775807 4 ≤ 9223372036854775807 := (by decide); have e2 : -9223372036854775808 ≤ Int.tdiv (-9223372036854775808) 4 := (by decide); exact ⟨Int.le_trans e2 h2, Int.le_trans h1 e1⟩
 refine Ct.of 163 [(0, _), (1, _), (2, _), (3, _), (4, _), (5, _)] Try.func4 rfl rfl rfl rfl ?_
 refine GC.seq (GC.region ?_)
 refine G.q Gd.no (Qt.asg rfl) rfl ?_
 refine G.nil (GK.then (GC.seq (GC.seq (GC.region ?_))))
 refine G.q Gd.no (Qt.mv rfl) rfl ?_
 refine G.q Gd.no (Qt.lenS (rt := 0) Try.underlying53 rfl) rfl ?_
 refine G.q Gd.no (Qt.gtr rfl rfl) rfl ?_
 refine G.q Gd.no (Qt.mv rfl) rfl ?_
 apply G.orb (seg := [_, _, _])
 exact rfl
 exact rfl
 exact rfl
 exact Gd.no
 exact rfl
 exact rfl
 ·intro g4; try simp only [sB0, sB1, sB2, sB3, sB4, sB5, sB6, sB7, sB8] at g4
  refine G.q (Gd.yes rfl rfl) (Qt.mv rfl) rfl ?_
  refine G.ld (Gd.yes rfl rfl) (Ld.call cal6 rfl rfl (.nil _) (fun F' hF => mlight_ct F' B _ _) (fun _ _ => ?_))
  dsimp only [lCa, lNa]
  refine G.q (Gd.yes rfl rfl) (Qt.not rfl) rfl ?_
  refine G.nil (GK.seg (n := [_, _, _]) rfl rfl rfl (by first | exact Tks.all _ | exact Tks.skip (Tks.all _) | exact Tks.skip (Tks.skip (Tks.all _)) | exact Tks.skip (Tks.skip (Tks.skip (Tks.all _)))))
 refine G.nil (GK.then ?_)
 refine GC.condb rfl (fun c0 => ?_) (fun c0 => ?_)
 ·try simp only [sB0, sB1, sB2, sB3, sB4, sB5, sB6, sB7, sB8] at c0
  refine GC.seq (GC.region ?_)
  refine G.ld Gd.no (Ld.call cal7 rfl rfl (.nil _) (fun F' hF => awake_ct F') (fun _ _ => ?_))
  dsimp only [lCa, lNa]
  refine G.q Gd.no (Qt.asg rfl) rfl ?_
  refine G.nil (GK.then (GC.ret (GK.thenr ?_)))
  refine GK.ret (rs := [.tmp 12]) rfl (.tmp rfl .nil) () ?_ ?_ (.nil _)
  ·trivial
  ·rfl
 ·try simp only [sB0, sB1, sB2, sB3, sB4, sB5, sB6, sB7, sB8] at c0
  have hll : l.length ≤ 600 := by omega
  refine GC.skip (GK.then (GC.seq (GC.region ?_)))
  refine G.q Gd.no (Qt.mv rfl) rfl ?_
  refine G.q Gd.no (Qt.mv rfl) rfl ?_
  refine G.ld Gd.no (Ld.call cal8 rfl rfl (.nil _) (fun F' hF => geometry_ct F' _ _) (fun _ _ => ?_))
  dsimp only [lCa, lNa]
  obtain ⟨n, hn⟩ : ∃ n, 2 + sectors % 3 = n := ⟨_, rfl⟩
  obtain ⟨m, hm⟩ : ∃ m, 64 + size % 40 = m := ⟨_, rfl⟩
  rw [hn, hm]
  obtain ⟨s, hs⟩ : ∃ s, n + 1 = s := ⟨_, rfl⟩
  have hs3 : 3 + sectors % 3 = s := by omega
  have hn2 : 3 ≤ s ∧ s ≤ 5 := by omega
  have hm2 : 64 ≤ m ∧ m ≤ 103 := by omega
  have hm64 : 64 ≤ m := by omega
  have hfn := Dev.new_fine (s := s) (z := m) (by omega) (by omega) (by omega) (by omega)
  have hsm : 3 * 64 ≤ s * m := Int.mul_le_mul hn2.1 hm2.1 (by omega) (by omega)
  have hsm2 : s * m ≤ 5 * 103 := Int.mul_le_mul hn2.2 hm2.2 (by omega) (by omega)
  have hnm : 0 < (s * m).toNat := by omega
  rw [hs3] at hno
  refine G.q Gd.no (Qt.mv rfl) rfl ?_
  refine G.q Gd.no (Qt.ext rfl rfl) rfl ?_
  refine G.q Gd.no (Qt.ext rfl rfl) rfl ?_
  refine G.q Gd.no (Qt.asg rfl) rfl ?_
  refine G.q Gd.no (Qt.asg rfl) rfl ?_
  refine G.nil (GK.then (GC.seq (GC.region ?_)))
  refine G.q Gd.no (Qt.mv rfl) rfl ?_
  refine G.q Gd.no (Qt.add rfl rfl (by first | exact i64_id (by omega) (by omega) | exact rfl)) rfl ?_
  rw [hs]
  refine G.q Gd.no (Qt.mv rfl) rfl ?_
  refine G.ld Gd.no (Ld.call cal21 rfl rfl (.nil _) (fun F' hF => new_ct F' s m (by omega) (by omega) (by omega) (by omega)) (fun ⟨q1, q2, q3⟩ _ => ?_))
  dsimp only [lCa, lNa]
  refine G.q Gd.no (Qt.mv rfl) rfl ?_
  refine G.q Gd.no (Qt.ext rfl rfl) rfl ?_
  refine G.q Gd.no (Qt.ext rfl rfl) rfl ?_
  refine G.q Gd.no (Qt.asg rfl) rfl ?_
  refine G.q Gd.no (Qt.asg rfl) rfl ?_
  refine G.nil (GK.then (GC.seq (GC.region ?_)))
  refine G.q Gd.no (Qt.mv rfl) rfl ?_
  refine G.q Gd.no (Qt.add rfl rfl (by first | exact i64_id (by omega) (by omega) | exact rfl)) rfl ?_
  rw [hs]
  refine G.q Gd.no (Qt.mv rfl) rfl ?_
  refine G.ld Gd.no (Ld.call cal22 rfl rfl (.nil _) (fun F' hF => rnew_ct F' s m (by omega) (by omega) (by omega) (by omega)) (fun ⟨r1, r2, r3, rs⟩ _ => ?_))
  dsimp only [lCa, lNa]
  refine G.q Gd.no (Qt.mv rfl) rfl ?_
  refine G.q Gd.no (Qt.ext rfl rfl) rfl ?_
  refine G.q Gd.no (Qt.ext rfl rfl) rfl ?_
  refine G.q Gd.no (Qt.asg rfl) rfl ?_
  refine G.q Gd.no (Qt.asg rfl) rfl ?_
  refine G.nil (GK.then (GC.seq (GC.seq (GC.region ?_))))
  refine G.q Gd.no (Qt.mv rfl) rfl ?_
  refine G.q Gd.no (Qt.eqPn Try.underlying27 rfl rfl) rfl ?_
  refine G.q Gd.no (Qt.mv rfl) rfl ?_
  apply G.orb (seg := [_, _])
  exact rfl
  exact rfl
  exact rfl
  exact Gd.no
  exact rfl
  exact rfl
  ·intro g3; try simp only [sB0, sB1, sB2, sB3, sB4, sB5, sB6, sB7, sB8] at g3
   refine G.q (Gd.yes rfl rfl) (Qt.mv rfl) rfl ?_
   refine G.q (Gd.yes rfl rfl) (Qt.neI rfl rfl) rfl ?_
   refine G.nil (GK.seg (n := [_, _]) rfl rfl rfl (by first | exact Tks.all _ | exact Tks.skip (Tks.all _) | exact Tks.skip (Tks.skip (Tks.all _)) | exact Tks.skip (Tks.skip (Tks.skip (Tks.all _)))))
  refine G.nil (GK.then ?_)
  refine GC.condf rfl ?_
  refine GC.skip (GK.then (GC.seq (GC.region ?_)))
  refine G.q Gd.no (Qt.mv rfl) rfl ?_
  refine G.q Gd.no (Qt.mv rfl) rfl ?_
  refine G.q Gd.no (Qt.lenS (rt := 0) Try.underlying53 rfl) rfl ?_
  refine G.q Gd.no (Qt.mv rfl) rfl ?_
  refine G.q Gd.no (Qt.add rfl rfl (by first | exact i64_id (by omega) (by omega) | exact rfl)) rfl ?_
  rw [hs]
  refine G.q Gd.no (Qt.mv rfl) rfl ?_
  refine G.q Gd.no (Qt.mul rfl rfl (by exact i64_id (by omega) (by omega))) rfl ?_
  refine G.q Gd.no (Qt.min2 rfl rfl) rfl ?_
  refine G.q Gd.no (Qt.slH Try.underlying53 z5 rfl rfl (by omega) (by omega) rfl) rfl ?_
  obtain ⟨xs, hxs⟩ : ∃ xs, bs.take (min (bs.length : Int) (s * m)).toNat = xs := ⟨_, rfl⟩
  have hxl : (min (bs.length : Int) (s * m)).toNat = xs.length := by rw [← hxs, List.length_take]; omega
  have hxv : VwF F A (vI .u8 xs) := by rw [← hxs]; have := hA.take (n := (min (bs.length : Int) (s * m)).toNat); simpa [vI, List.map_take] using this
  have hxm : (xs.length : Int) ≤ s * m := by rw [← hxl]; omega
  rw [hxl]
  refine G.q Gd.no (Qt.asg rfl) rfl ?_
  refine G.nil (GK.then (GC.seq (GC.seq (GC.region ?_))))
  refine G.q Gd.no (Qt.mv rfl) rfl ?_
  refine G.q Gd.no (Qt.mv rfl) rfl ?_
  refine G.ld Gd.no (Ld.call cal23 rfl rfl (Tks.c (Tks.c (.nil _))) (fun F' hF => program_ct F' q1 q2 q3 _ _ [] (Dev.new s m) hfn.ok 0 A _ xs (hxv.mono hF) (by omega)) (fun _ _ => ?_))
  dsimp only [lCa, lNa]
  obtain ⟨E, e0, hP⟩ : ∃ E e0, (Dev.new s m).program 0 xs = (E, e0) := ⟨_, _, rfl⟩
  obtain ⟨fE, lE⟩ := Dev.program_fine hfn 0 xs
  have wE := Dev.program_wear (Dev.new s m) 0 xs
  have hup := Dev.program_up (D := Dev.new s m) rfl rfl 0 xs
  rw [hP] at fE lE wE hup ⊢
  dsimp only at fE lE wE hup ⊢
  rw [← wE]
  have hnw : E.nw = s.toNat := lE.2.1
  have hEn : E.n = (s * m).toNat := lE.1
  have hEs : E.size = m := lE.2.2
  refine G.q Gd.no (Qt.mv rfl) rfl ?_
  refine G.q Gd.no (Qt.mv rfl) rfl ?_
  refine G.ld Gd.no (Ld.call cal24 rfl rfl (Tks.c (Tks.c (.nil _))) (fun F' hF => rprogram_ct F' r1 r2 r3 _ _ rs (Dev.new s m) hfn.ok hfn.ok2 0 A _ xs (hxv.mono hF) (by omega)) (fun _ _ => ?_))
  dsimp only [lCa, lNa]
  rw [hP]
  dsimp only
  refine G.q Gd.no (Qt.neI rfl rfl) rfl ?_
  rw [ne_self]
  refine G.nil (GK.then ?_)
  refine GC.condf rfl ?_
  refine GC.skip (GK.then (GC.seq (GC.region ?_)))
  refine G.q Gd.no (Qt.mv rfl) rfl ?_
  refine G.ld Gd.no (Ld.call cal10 rfl rfl (.nil _) (fun F' hF => mod_ct F' first 4 (by omega) (by omega)) (fun _ _ => ?_))
  dsimp only [lCa, lNa]
  refine G.q Gd.no (Qt.sub rfl rfl (by first | exact i64_id (by omega) (by omega) | exact rfl)) rfl ?_
  refine G.q Gd.no (Qt.asg rfl) rfl ?_
  obtain ⟨k, hk⟩ : ∃ k, first % 4 - 1 = k := ⟨_, rfl⟩
  rw [hk] at hno ⊢
  have hkb : -1 ≤ k ∧ k ≤ 2 := by omega
  refine G.nil (GK.then (GC.seq (GC.region ?_)))
  refine G.q Gd.no (Qt.mv rfl) rfl ?_
  refine G.q Gd.no (Qt.sub rfl rfl (by first | exact i64_id (by omega) (by omega) | exact rfl)) rfl ?_
  refine G.q Gd.no (Qt.mv rfl) rfl ?_
  refine G.q Gd.no (Qt.quo (r := first.tdiv 4) rfl rfl (by omega) (i64_id hq4.1 hq4.2)) rfl ?_
  refine G.ld Gd.no (Ld.call cal10 rfl rfl (.nil _) (fun F' hF => mod_ct F' (first.tdiv 4) 3 (by omega) (by omega)) (fun _ _ => ?_))
  dsimp only [lCa, lNa]
  refine G.q Gd.no (Qt.add rfl rfl (by first | exact i64_id (by omega) (by omega) | exact rfl)) rfl ?_
  refine G.q Gd.no (Qt.asg rfl) rfl ?_
  obtain ⟨cc, hcc⟩ : ∃ cc, n - 1 + first.tdiv 4 % 3 = cc := ⟨_, rfl⟩
  rw [show 1 + sectors % 3 + first.tdiv 4 % 3 = cc by omega] at hno
  rw [hcc]
  have hcb : 1 ≤ cc ∧ cc ≤ 5 := by omega
  refine G.nil (GK.then (GC.seq (GC.region ?_)))
  refine G.q Gd.no (Qt.mv rfl) rfl ?_
  refine G.q Gd.no (Qt.mv rfl) rfl ?_
  refine G.q Gd.no (Qt.mv rfl) rfl ?_
  refine G.q Gd.no (Qt.mv rfl) rfl ?_
  refine G.ld Gd.no (Ld.call cal17 rfl rfl (.nil _) (fun F' hF => goUp_ct F' q1 q2 q3 _ _ [] E (hF.own In.o) (hF.own In.o) fE (by rw [hEn]; exact Nat.le_refl _) k cc over (by rw [hnw]; exact hno) hup (by rw [hEs]; exact hm64) (by omega)) (fun ⟨b, rb, rc, sp⟩ ⟨i1, i2, i3⟩ => ?_))
  dsimp only [lCa, lNa]
  refine G.q Gd.no (Qt.mv rfl) rfl ?_
  refine G.q Gd.no (Qt.ext rfl rfl) rfl ?_
  refine G.q Gd.no (Qt.ext rfl rfl) rfl ?_
  refine G.q Gd.no (Qt.asg rfl) rfl ?_
  refine G.q Gd.no (Qt.asg rfl) rfl ?_
  refine G.nil (GK.then (GC.seq (GC.region ?_)))
  refine G.q Gd.no (Qt.mv rfl) rfl ?_
  refine G.q Gd.no (Qt.mv rfl) rfl ?_
  refine G.q Gd.no (Qt.mv rfl) rfl ?_
  refine G.q Gd.no (Qt.mv rfl) rfl ?_
  refine G.ld Gd.no (Ld.call cal25 rfl rfl (.nil _) (fun F' hF => ropenUp_ct F' r1 r2 r3 _ _ E (hF.own In.o) fE.ok k cc over (by rw [hnw]; exact hno) hup) (fun r _ => ?_))
  dsimp only [lCa, lNa]
  refine G.q Gd.no (Qt.mv rfl) rfl ?_
  refine G.q Gd.no (Qt.ext rfl rfl) rfl ?_
  refine G.q Gd.no (Qt.ext rfl rfl) rfl ?_
  refine G.q Gd.no (Qt.asg rfl) rfl ?_
  refine G.q Gd.no (Qt.asg rfl) rfl ?_
  refine G.nil (GK.then (GC.seq (GC.seq (GC.region ?_))))
  refine G.q Gd.no (Qt.mv rfl) rfl ?_
  refine G.q Gd.no (Qt.mv rfl) rfl ?_
  refine G.q Gd.no (Qt.neI rfl rfl) rfl ?_
  rw [ne_self]
  refine G.q Gd.no (Qt.mv rfl) rfl ?_
  apply G.orb (seg := [_, _, _, _, _])
  exact rfl
  exact rfl
  exact rfl
  exact Gd.no
  exact rfl
  exact rfl
  ·intro g4; try simp only [sB0, sB1, sB2, sB3, sB4, sB5, sB6, sB7, sB8] at g4
   refine G.q (Gd.yes rfl rfl) (Qt.mv rfl) rfl ?_
   refine G.q (Gd.yes rfl rfl) (Qt.nePn Try.underlying28 rfl rfl) rfl ?_
   refine G.q (Gd.yes rfl rfl) (Qt.mv rfl) rfl ?_
   refine G.q (Gd.yes rfl rfl) (Qt.eqI rfl rfl) rfl ?_
   refine G.q (Gd.yes rfl rfl) (Qt.neB Try.underlying4 rfl rfl) rfl ?_
   refine G.nil (GK.seg (n := [_, _, _, _, _]) rfl rfl rfl (by first | exact Tks.all _ | exact Tks.skip (Tks.all _) | exact Tks.skip (Tks.skip (Tks.all _)) | exact Tks.skip (Tks.skip (Tks.skip (Tks.all _)))))
  refine G.nil (GK.then ?_)
  refine GC.condf rfl ?_
  refine GC.skip (GK.then (GC.seq (GC.seq (GC.region ?_))))
  refine G.q Gd.no (Qt.mv rfl) rfl ?_
  refine G.q Gd.no (Qt.eqPn Try.underlying28 rfl rfl) rfl ?_
  refine G.nil (GK.then ?_)
  refine GC.condf rfl ?_
  refine GC.skip (GK.then (GC.seq ?_))
  have hS : cc ≤ 255 := by omega
  have inv0 := Pg.opened (over := over) fE lE hup (by rw [hnw]; exact hno) (by rw [hEs]; exact hm64)
  have hd0 := inv0.dOf
  refine GC.region ?_
  refine G.q Gd.no (Qt.mv rfl) rfl ?_
  refine G.ld Gd.no (Ld.call cal12 rfl rfl (.nil _) (fun F' hF => roll_ct F' B _ _ l rfl) (fun qd _ => ?_))
  dsimp only [lCa, lNa]
  refine G.q Gd.no (Qt.asg rfl) rfl ?_
  refine G.nil (GK.then (GC.seq (GC.seq (GC.region ?_))))
  refine G.q Gd.no (Qt.asg rfl) rfl ?_
  refine G.nil (GK.then (GC.block ?_))
  refine GC.loop (S := Nat × Lg × Rl × Dev × Option Nat × Nat × List Value) (fun x => x.1 ≤ 4 ∧ Pg (Dev.new s m) cc x.2.1 x.2.2.1 x.2.2.2.1 ∧ x.2.1.recs.length * 11 + x.2.2.2.2.2.2.length = x.2.2.2.2.2.1 * 11 ∧ (x.2.2.2.2.1 = none → x.2.1.recs = [] ∧ x.2.2.2.2.2.2 = [])) (fun x => 4 - x.1)
   (fun x => [(15, .pointer (some ⟨q1, 0, none⟩)), (17, .pointer (some ⟨r1, 0, none⟩)), (22, .pointer (some ⟨b, 0, none⟩)), (23, .pointer (some ⟨r, 0, none⟩)), (25, .pointer (some ⟨qd, 0, none⟩)), (26, .int .i64 (x.1 : Int))]) (fun x => [(some b, .cells (lgC x.2.1 (dOf x.2.1 q1) x.2.2.2.2.1 x.2.2.2.2.2.1) 85), (x.2.2.2.2.1, .cells (x.2.1.recs.flatMap recC ++ x.2.2.2.2.2.2) 90), (some r, .cells (rlC x.2.2.1 r1) 105), (some q1, .cells (devC x.2.2.2.1 q2 q3 (s * m).toNat s.toNat) 81), (some q2, .cells (vI .u8 x.2.2.2.1.bytes ++ []) 5), (some q3, .cells (vI .i64 x.2.2.2.1.wear ++ []) 3), (some r1, .cells (devC x.2.2.2.1 r2 r3 ((s * m).toNat + rs.length) s.toNat) 102), (some r2, .cells (vI .u8 x.2.2.2.1.bytes ++ rs) 5), (some r3, .cells (vI .i64 x.2.2.2.1.wear ++ []) 3), (some qd, .cells (diC (Di.evN ⟨l, 0⟩ x.1) B c) 76)]) (0, openL k cc over E, Rl.open0 k cc over, E, rb, rc, sp) ?_ ?_ ?_ ?_
  ·exact ⟨Nat.zero_le _, inv0, i1, i2⟩
  ·exact ⟨rfl, rfl, rfl, rfl, rfl, rfl, trivial⟩
  ·(simp only [hd0]; exact ⟨_, (Tks.c (Tks.c (Tks.c (Tks.c (Tks.c (Tks.c (Tks.c (Tks.c (Tks.c (Tks.c (.nil _)))))))))))⟩)
  intro ⟨i, Y, R, D, rb, rc, sp⟩ ⟨h1, inv, hcp, hnl⟩
  simp only at h1 inv hcp hnl
  have hcb2 : D.n ≤ (s * m).toNat := by rw [inv.like.1]; exact Nat.le_refl _
  have hgb : D.n ≤ (s * m).toNat + rs.length := by rw [inv.like.1]; exact Nat.le_add_right _ _
  have hdl := Di.evN_l ⟨l, 0⟩ i
  have hds := Di.evN_succ ⟨l, 0⟩ i
  refine GC.seq (GC.seq (GC.region ?_))
  refine G.q Gd.no (Qt.mv rfl) rfl ?_
  refine G.q Gd.no (Qt.lss rfl rfl) rfl ?_
  refine G.nil (GK.then ?_)
  refine GC.condb rfl (fun c5 => ?_) (fun c5 => ?_)
  ·try simp only [sB0, sB1, sB2, sB3, sB4, sB5, sB6, sB7, sB8] at c5
   refine GC.skip (GK.then (GC.seq (GC.block (GC.seq (GC.region ?_)))))
   refine G.q Gd.no (Qt.mv rfl) rfl ?_
   refine G.ld Gd.no (Ld.call cal13 rfl rfl (Tks.c (.nil _)) (fun F' hF => event_ct F' qd B c (Di.evN ⟨l, 0⟩ i) (by rw [hdl]; exact hB.mono hF) (by rw [hdl]; simp only; omega)) (fun _ _ => ?_))
   dsimp only [lCa, lNa]
   obtain ⟨z, hz⟩ : ∃ z, (Di.evN ⟨l, 0⟩ i).event.1 = z := ⟨_, rfl⟩
   have hwf : z.Wf := by rw [← hz]; exact (Di.event_wf _).1
   rw [hz, ← hds]
   refine G.ld Gd.no (Ld.alloc rfl ze40 (by first | exact Cl.one rfl | exact Cl.agg) (fun b27 => ?_))
   refine G.ld Gd.no (Ld.stW (by exact z40) rfl rfl (evC_one _) (E := 40) (by rfl) UpdC.u ?_)
   refine G.nil (GK.then (GC.seq (GC.region ?_)))
   refine G.q Gd.no (Qt.mv rfl) rfl ?_
   refine G.q Gd.no (Qt.ldW a40 rfl Rd.o z40) rfl ?_
   refine G.ld Gd.no (Ld.call cal15 rfl rfl (Tks.c (Tks.c (Tks.c (Tks.c (Tks.c (.nil _)))))) (fun F' hF => add_ct F' b q1 q2 q3 _ _ [] [] rb rc sp Y D inv.fine hcb2 hcp hnl (inv.len hS) inv.gf z hwf) (fun ⟨rb2, rc2, sp2⟩ ⟨hcp2, hnl2⟩ => ?_))
   dsimp only [lCa, lNa]
   obtain ⟨he, inv2⟩ := inv.add hwf
   obtain ⟨Y2, p2, hy⟩ : ∃ Y2 p2, Y.add D z = (Y2, p2) := ⟨_, _, rfl⟩
   obtain ⟨R2, E2, av, xv, hr⟩ : ∃ R2 E2 av xv, R.add D z = (R2, E2, av, xv) := ⟨_, _, _, _, rfl⟩
   rw [hy, hr] at he inv2
   dsimp only at he inv2
   subst he
   rw [hy] at hcp2 hnl2 ⊢
   dsimp only at hcp2 hnl2 ⊢
   refine G.q Gd.no (Qt.mv rfl) rfl ?_
   refine G.q Gd.no (Qt.ext rfl rfl) rfl ?_
   refine G.q Gd.no (Qt.ext rfl rfl) rfl ?_
   refine G.q Gd.no (Qt.asg rfl) rfl ?_
   refine G.q Gd.no (Qt.asg rfl) rfl ?_
   refine G.nil (GK.then (GC.seq (GC.region ?_)))
   refine G.q Gd.no (Qt.mv rfl) rfl ?_
   refine G.q Gd.no (Qt.ldW a40 rfl Rd.o z40) rfl ?_
   refine G.ld Gd.no (Ld.call cal26 rfl rfl (Tks.c (Tks.c (Tks.c (Tks.c (.nil _))))) (fun F' hF => radd_ct F' r r1 r2 r3 _ _ rs [] R D inv.fine inv.rf hgb z hwf) (fun _ _ => ?_))
   dsimp only [lCa, lNa]
   rw [hr]
   dsimp only
   refine G.q Gd.no (Qt.mv rfl) rfl ?_
   refine G.q Gd.no (Qt.ext rfl rfl) rfl ?_
   refine G.q Gd.no (Qt.ext rfl rfl) rfl ?_
   refine G.q Gd.no (Qt.asg rfl) rfl ?_
   refine G.q Gd.no (Qt.asg rfl) rfl ?_
   refine G.nil (GK.then (GC.seq (GC.region ?_)))
   refine G.q Gd.no (Qt.mv rfl) rfl ?_
   refine G.q Gd.no (Qt.mv rfl) rfl ?_
   refine G.q Gd.no (Qt.neI rfl rfl) rfl ?_
   rw [ne_self]
   refine G.q Gd.no (Qt.mv rfl) rfl ?_
   apply G.orb (seg := [_, _, _])
   exact rfl
   exact rfl
   exact rfl
   exact Gd.no
   exact rfl
   exact rfl
   ·intro g4; try simp only [sB0, sB1, sB2, sB3, sB4, sB5, sB6, sB7, sB8] at g4
    refine G.q (Gd.yes rfl rfl) (Qt.mv rfl) rfl ?_
    refine G.q (Gd.yes rfl rfl) (Qt.mv rfl) rfl ?_
    refine G.q (Gd.yes rfl rfl) (Qt.neI rfl rfl) rfl ?_
    rw [ne_self]
    refine G.nil (GK.seg (n := [_, _, _]) rfl rfl rfl (by first | exact Tks.all _ | exact Tks.skip (Tks.all _) | exact Tks.skip (Tks.skip (Tks.all _)) | exact Tks.skip (Tks.skip (Tks.skip (Tks.all _)))))
   refine G.q Gd.no (Qt.mv rfl) rfl ?_
   apply G.orb (seg := [_, _, _, _, _])
   exact rfl
   exact rfl
   exact rfl
   exact Gd.no
   exact rfl
   exact rfl
   ·intro g9; try simp only [sB0, sB1, sB2, sB3, sB4, sB5, sB6, sB7, sB8] at g9
    refine G.q (Gd.yes rfl rfl) (Qt.mv rfl) rfl ?_
    refine G.q (Gd.yes rfl rfl) (Qt.mv rfl) rfl ?_
    refine G.q (Gd.yes rfl rfl) (Qt.mv rfl) rfl ?_
    refine G.ld (Gd.yes rfl rfl) (Ld.call cal27 rfl rfl (.nil _) (fun F' hF => same_ct F' _ _ _ _ _ _ (hF.own In.o) (VwF.oA (fun b hb => by subst hb; exact VwF.ofPre (hF.own In.o)) (fun e => by rw [(hnl2 e).1]; rfl)) (fun b hb => by subst hb; exact hF.own In.o) (inv2.len hS) _ r1 r2 r3 _ _ rs _ _ (hF.own In.o) (hF.own In.o) (hF.own In.o) inv2.fine inv2.rf (by rw [inv2.like.1]; exact Nat.le_add_right _ _) (by rw [inv2.rS]; omega) inv2.events inv2.full _) (fun _ _ => ?_))
    dsimp only [lCa, lNa]
    refine G.q (Gd.yes rfl rfl) (Qt.not rfl) rfl ?_
    refine G.nil (GK.seg (n := [_, _, _, _, _]) rfl rfl rfl (by first | exact Tks.all _ | exact Tks.skip (Tks.all _) | exact Tks.skip (Tks.skip (Tks.all _)) | exact Tks.skip (Tks.skip (Tks.skip (Tks.all _)))))
   refine G.q Gd.no (Qt.mv rfl) rfl ?_
   apply G.orb (seg := [_, _, _, _])
   exact rfl
   exact rfl
   exact rfl
   exact Gd.no
   exact rfl
   exact rfl
   ·intro g16; try simp only [sB0, sB1, sB2, sB3, sB4, sB5, sB6, sB7, sB8] at g16
    refine G.q (Gd.yes rfl rfl) (Qt.mv rfl) rfl ?_
    refine G.q (Gd.yes rfl rfl) (Qt.mv rfl) rfl ?_
    refine G.ld (Gd.yes rfl rfl) (Ld.call cal28 rfl rfl (.nil _) (fun F' hF => sd_ct F' q1 q2 q3 _ _ r1 r2 r3 _ _ [] [] rs [] _ (hF.own In.o) (hF.own In.o) (hF.own In.o) (hF.own In.o) (hF.own In.o) (hF.own In.o) inv2.fine (by rw [inv2.like.1]; exact Nat.le_refl _) (by rw [inv2.like.1]; exact Nat.le_add_right _ _) (by rw [inv2.like.1]; exact hnm)) (fun _ _ => ?_))
    dsimp only [lCa, lNa]
    refine G.q (Gd.yes rfl rfl) (Qt.not rfl) rfl ?_
    refine G.nil (GK.seg (n := [_, _, _, _]) rfl rfl rfl (by first | exact Tks.all _ | exact Tks.skip (Tks.all _) | exact Tks.skip (Tks.skip (Tks.all _)) | exact Tks.skip (Tks.skip (Tks.skip (Tks.all _)))))
   refine G.nil (GK.then ?_)
   refine GC.condf rfl ?_
   refine GC.skip (GK.blockn (GK.then (GC.region ?_)))
   refine G.q Gd.no (Qt.mv rfl) rfl ?_
   refine G.q Gd.no (Qt.add rfl rfl (by first | exact i64_id (by omega) (by omega) | exact rfl)) rfl ?_
   refine G.q Gd.no (Qt.asg rfl) rfl ?_
   refine G.nil ?_
   refine GK.head (i + 1, Y2, R2, E2, rb2, rc2, sp2) ?_ ?_ ?_ ?_
   ·simp only; omega
   ·exact ⟨by simp only; omega, inv2, hcp2, hnl2⟩
   ·exact ⟨rfl, rfl, rfl, rfl, rfl, rfl, trivial⟩
   ·exact ⟨_, (Tks.c (Tks.c (Tks.c (Tks.c (Tks.c (Tks.c (Tks.c (Tks.c (Tks.c (Tks.c (.nil _)))))))))))⟩
  ·try simp only [sB0, sB1, sB2, sB3, sB4, sB5, sB6, sB7, sB8] at c5
   refine GC.exit (GK.thene (GK.thene (GK.blocke (GK.then (GC.seq (GC.region ?_))))))
   refine G.ld Gd.no (Ld.call cal7 rfl rfl (.nil _) (fun F' hF => awake_ct F') (fun _ _ => ?_))
   dsimp only [lCa, lNa]
   refine G.q Gd.no (Qt.asg rfl) rfl ?_
   refine G.nil (GK.then (GC.ret ?_))
   refine GK.ret (rs := [.tmp 12]) rfl (.tmp rfl .nil) () ?_ ?_ (.nil _)
   ·trivial
   ·rfl
end Go.Proofs.Ytbeiciinppmekaa
