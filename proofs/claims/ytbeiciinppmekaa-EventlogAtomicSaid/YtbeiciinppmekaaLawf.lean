/-
  baseboardlaw09.filled returns a log that was filled by Add alone; its conditions are its premises.
-/
import Derived.Test.YtbeiciinppmekaaTb
import Derived.Test.YtbeiciinppmekaaPlf
import Derived.Test.YtbeiciinppmekaaProg
namespace Go.Proofs.Ytbeiciinppmekaa
open Go Go.Sx Go.Proofs
set_option maxRecDepth 100000
set_option linter.unusedSimpArgs false
set_option linter.unusedVariables false
/-- What filled leaves: where it lies, and what it is. -/
structure FS where
  q1 : Nat
  q2 : Nat
  q3 : Nat
  g : Nat
  rb : Option Nat
  rc : Nat
  sp : List Value
  ob : Option Nat
  oc : Nat
  ou : List Value
  Y : Lg
  R : Rl
  D : Dev
theorem addS_ct (F : Fr) (b db bb bw cb cw : Nat) (sb sw : List Value) (rb : Option Nat) (rc : Nat) (sp : List Value) (Y : Lg) (D : Dev) (fine : D.Fine) (hcb : D.n ≤ cb) (hinv : Y.recs.length * 11 + sp.length = rc * 11) (hnil : rb = none → Y.recs = [] ∧ sp = []) (hlen : Y.recs.length ≤ 16777216) (gf : Y.ended = false → Y.Fine D) (hdo : dOf Y db = some ⟨db, 0, none⟩) (e : Ev) (wf : e.Wf) :
    Ct Try.prog F 15 [.pointer (some ⟨b, 0, none⟩), .agg (evC e).toArray] [(some b, .cells (lgC Y (some ⟨db, 0, none⟩) rb rc) 85), (rb, .cells (Y.recs.flatMap recC ++ sp) 90), (some db, .cells (devC D bb bw cb cw) 81), (some bb, .cells (vI .u8 D.bytes ++ sb) 5), (some bw, .cells (vI .i64 D.wear ++ sw) 3)]
      (S := Option Nat × Nat × List Value) (fun x => (Y.add D e).1.recs.length * 11 + x.2.2.length = x.2.1 * 11 ∧ (x.1 = none → (Y.add D e).1.recs = [] ∧ x.2.2 = [])) (fun _ => .tuple #[.int .u16 (Y.add D e).2.2.1, .int .i64 (Y.add D e).2.2.2])
      (fun x => [(some b, .cells (lgC (Y.add D e).1 (dOf (Y.add D e).1 db) x.1 x.2.1) 85), (x.1, .cells ((Y.add D e).1.recs.flatMap recC ++ x.2.2) 90), (some db, .cells (devC (Y.add D e).2.1 bb bw cb cw) 81), (some bb, .cells (vI .u8 (Y.add D e).2.1.bytes ++ sb) 5), (some bw, .cells (vI .i64 (Y.add D e).2.1.wear ++ sw) 3)]) := by
  have h := add_ct F b db bb bw cb cw sb sw rb rc sp Y D fine hcb hinv hnil hlen gf e wf
  rw [hdo] at h
  exact h
theorem Fi.dOf {s z : Int} {over : Bool} {Y : Lg} {R : Rl} {D : Dev} {k : Nat} (h : Fi s z over Y R D k) (q : Nat) : Go.Proofs.Ytbeiciinppmekaa.dOf Y q = some ⟨q, 0, none⟩ := by unfold Go.Proofs.Ytbeiciinppmekaa.dOf; rw [h.ag.ye]; rfl
set_option maxHeartbeats 1000000 in
theorem filled_ct (F : Fr) (s z : Int) (over : Bool) (B : Option Addr) (l : List Int) (c k : Nat) (hB : VwF F B (vI .i64 l)) (hl : l.length ≤ 600) (hs : 2 ≤ s) (hs2 : s ≤ 16) (hz : 64 ≤ z) (hz2 : z ≤ 1024) (hk : k ≤ 1000) :
    Ct Try.prog F 9 [.int .i64 s, .int .i64 z, .bool over, .slice B l.length c, .int .i64 (k : Int)] [] (S := FS) (fun x => Fi s z over x.Y x.R x.D k ∧ (x.Y.recs.length * 11 + x.sp.length = x.rc * 11 ∧ (x.rb = none → x.Y.recs = [] ∧ x.sp = [])) ∧ ((x.R.recsA x.D).length * 10 + x.ou.length = x.oc * 10 ∧ (x.ob = none → x.R.recsA x.D = [] ∧ x.ou = []))) (fun x => .tuple #[.pointer (some ⟨x.q1, 0, none⟩), .pointer (some ⟨x.g, 0, none⟩), .slice (oA x.ob) (x.R.recsA x.D).length x.oc, .bool true]) (fun x => [(some x.g, .cells (lgC x.Y (some ⟨x.q1, 0, none⟩) x.rb x.rc) 85), (x.rb, .cells (x.Y.recs.flatMap recC ++ x.sp) 90), (some x.q1, .cells (devC x.D x.q2 x.q3 (s * z).toNat s.toNat) 81), (some x.q2, .cells (vI .u8 x.D.bytes ++ []) 5), (some x.q3, .cells (vI .i64 x.D.wear ++ []) 3), (x.ob, .cells ((x.R.recsA x.D).flatMap evC ++ x.ou) 40)]) := by
 have hfn := Dev.new_fine (s := s) (z := z) (by omega) (by omega) (by omega) (by omega)
 have hno := noRoom_new (Dev.Like.refl (Dev.new s z)) hs
 have hst := Fi.start (over := over) hs hs2 hz hz2
 refine Ct.of 71 [(0, _), (1, _), (2, _), (3, _), (4, _)] Try.func9 rfl rfl rfl rfl ?_
 refine GC.seq (GC.region ?_)
 refine G.q Gd.no (Qt.asg rfl) rfl ?_
 refine G.q Gd.no (Qt.asg rfl) rfl ?_
 refine G.q Gd.no (Qt.asg rfl) rfl ?_
 refine G.q Gd.no (Qt.asg rfl) rfl ?_
 refine G.nil (GK.then (GC.seq (GC.region ?_)))
 refine G.q Gd.no (Qt.mv rfl) rfl ?_
 refine G.q Gd.no (Qt.mv rfl) rfl ?_
 refine G.ld Gd.no (Ld.call cal21 rfl rfl (.nil _) (fun F' hF => new_ct F' s z (by omega) (by omega) (by omega) (by omega)) (fun ⟨q1, q2, q3⟩ _ => ?_))
 dsimp only [lCa, lNa]
 refine G.q Gd.no (Qt.mv rfl) rfl ?_
 refine G.q Gd.no (Qt.ext rfl rfl) rfl ?_
 refine G.q Gd.no (Qt.ext rfl rfl) rfl ?_
 refine G.q Gd.no (Qt.asg rfl) rfl ?_
 refine G.q Gd.no (Qt.asg rfl) rfl ?_
 refine G.nil (GK.then (GC.seq (GC.seq (GC.region ?_))))
 refine G.q Gd.no (Qt.mv rfl) rfl ?_
 refine G.q Gd.no (Qt.eqPn Try.underlying27 rfl rfl) rfl ?_
 refine G.q Gd.no (Qt.mv rfl) rfl ?_
 apply G.orb (seg := [_, _])
 exact rfl
 exact rfl
 exact rfl
 exact Gd.no
 exact rfl
 exact rfl
 ·intro g3; try simp only [sB0, sB1, sB2, sB3, sB4, sB5, sB6, sB7, sB8] at g3
  refine G.q (Gd.yes rfl rfl) (Qt.mv rfl) rfl ?_
  refine G.q (Gd.yes rfl rfl) (Qt.neI rfl rfl) rfl ?_
  refine G.nil (GK.seg (n := [_, _]) rfl rfl rfl (by first | exact Tks.all _ | exact Tks.skip (Tks.all _) | exact Tks.skip (Tks.skip (Tks.all _)) | exact Tks.skip (Tks.skip (Tks.skip (Tks.all _)))))
 refine G.nil (GK.then ?_)
 refine GC.condf rfl ?_
 refine GC.skip (GK.then (GC.seq (GC.region ?_)))
 refine G.q Gd.no (Qt.mv rfl) rfl ?_
 refine G.q Gd.no (Qt.mv rfl) rfl ?_
 refine G.q Gd.no (Qt.mv rfl) rfl ?_
 refine G.ld Gd.no (Ld.call cal17 rfl rfl (.nil _) (fun F' hF => goUp_ct F' q1 q2 q3 _ _ [] (Dev.new s z) (hF.own In.o) (hF.own In.o) hfn (Nat.le_refl _) 0 s over hno rfl hz (by omega)) (fun ⟨g, rb, rc, sp⟩ ⟨i1, i2, i3⟩ => ?_))
 dsimp only [lCa, lNa]
 refine G.q Gd.no (Qt.mv rfl) rfl ?_
 refine G.q Gd.no (Qt.ext rfl rfl) rfl ?_
 refine G.q Gd.no (Qt.ext rfl rfl) rfl ?_
 refine G.q Gd.no (Qt.asg rfl) rfl ?_
 refine G.q Gd.no (Qt.asg rfl) rfl ?_
 refine G.nil (GK.then (GC.seq (GC.seq (GC.region ?_))))
 refine G.q Gd.no (Qt.mv rfl) rfl ?_
 refine G.q Gd.no (Qt.eqPn Try.underlying28 rfl rfl) rfl ?_
 refine G.q Gd.no (Qt.mv rfl) rfl ?_
 apply G.orb (seg := [_, _])
 exact rfl
 exact rfl
 exact rfl
 exact Gd.no
 exact rfl
 exact rfl
 ·intro g3; try simp only [sB0, sB1, sB2, sB3, sB4, sB5, sB6, sB7, sB8] at g3
  refine G.q (Gd.yes rfl rfl) (Qt.mv rfl) rfl ?_
  refine G.q (Gd.yes rfl rfl) (Qt.neI rfl rfl) rfl ?_
  refine G.nil (GK.seg (n := [_, _]) rfl rfl rfl (by first | exact Tks.all _ | exact Tks.skip (Tks.all _) | exact Tks.skip (Tks.skip (Tks.all _)) | exact Tks.skip (Tks.skip (Tks.skip (Tks.all _)))))
 refine G.nil (GK.then ?_)
 refine GC.condf rfl ?_
 refine GC.skip (GK.then (GC.seq (GC.region ?_)))
 refine G.q Gd.no (Qt.mv rfl) rfl ?_
 refine G.ld Gd.no (Ld.call cal12 rfl rfl (.nil _) (fun F' hF => roll_ct F' B _ _ l rfl) (fun qd _ => ?_))
 dsimp only [lCa, lNa]
 refine G.q Gd.no (Qt.asg rfl) rfl ?_
 refine G.nil (GK.then (GC.seq (GC.seq (GC.region ?_))))
 refine G.q Gd.no (Qt.asg rfl) rfl ?_
 refine G.nil (GK.then (GC.block ?_))
 refine GC.loop (S := Nat × Lg × Rl × Dev × Option Nat × Nat × List Value) (fun x => x.1 ≤ k ∧ Fi s z over x.2.1 x.2.2.1 x.2.2.2.1 x.1 ∧ x.2.1.recs.length * 11 + x.2.2.2.2.2.2.length = x.2.2.2.2.2.1 * 11 ∧ (x.2.2.2.2.1 = none → x.2.1.recs = [] ∧ x.2.2.2.2.2.2 = [])) (fun x => k - x.1)
  (fun x => [(4, .int .i64 (k : Int)), (14, .pointer (some ⟨q1, 0, none⟩)), (16, .pointer (some ⟨g, 0, none⟩)), (18, .pointer (some ⟨qd, 0, none⟩)), (19, .int .i64 (x.1 : Int))]) (fun x => [(some g, .cells (lgC x.2.1 (some ⟨q1, 0, none⟩) x.2.2.2.2.1 x.2.2.2.2.2.1) 85), (x.2.2.2.2.1, .cells (x.2.1.recs.flatMap recC ++ x.2.2.2.2.2.2) 90), (some q1, .cells (devC x.2.2.2.1 q2 q3 (s * z).toNat s.toNat) 81), (some q2, .cells (vI .u8 x.2.2.2.1.bytes ++ []) 5), (some q3, .cells (vI .i64 x.2.2.2.1.wear ++ []) 3), (some qd, .cells (diC (Di.evN ⟨l, 0⟩ x.1) B c) 76)]) (0, openL 0 s over (Dev.new s z), Rl.open0 0 s over, Dev.new s z, rb, rc, sp) ?_ ?_ ?_ ?_
 ·exact ⟨Nat.zero_le _, hst, i1, i2⟩
 ·exact ⟨rfl, rfl, rfl, rfl, rfl, trivial⟩
 ·exact ⟨_, (Tks.c (Tks.c (Tks.c (Tks.c (Tks.c (Tks.c (.nil _)))))))⟩
 intro ⟨i, Y, R, D, rb, rc, sp⟩ ⟨h1, fi, hcp, hnl⟩
 simp only at h1 fi hcp hnl
 have hcb : D.n ≤ (s * z).toNat := by rw [fi.like.1]; exact Nat.le_refl _
 have hdl := Di.evN_l ⟨l, 0⟩ i
 have hds := Di.evN_succ ⟨l, 0⟩ i
 have hln := recs_len_bd fi.ag (by rw [fi.S]; omega)
 have hdO := fi.dOf
 refine GC.seq (GC.seq (GC.region ?_))
 refine G.q Gd.no (Qt.mv rfl) rfl ?_
 refine G.q Gd.no (Qt.mv rfl) rfl ?_
 refine G.q Gd.no (Qt.lss rfl rfl) rfl ?_
 refine G.nil (GK.then ?_)
 refine GC.condb rfl (fun c2 => ?_) (fun c2 => ?_)
 ·try simp only [sB0, sB1, sB2, sB3, sB4, sB5, sB6, sB7, sB8] at c2
  refine GC.skip (GK.then (GC.seq (GC.block (GC.seq (GC.region ?_)))))
  refine G.q Gd.no (Qt.mv rfl) rfl ?_
  refine G.q Gd.no (Qt.mv rfl) rfl ?_
  refine G.ld Gd.no (Ld.call cal13 rfl rfl (Tks.c (.nil _)) (fun F' hF => event_ct F' qd B c (Di.evN ⟨l, 0⟩ i) (by rw [hdl]; exact hB.mono hF) (by rw [hdl]; simp only; omega)) (fun _ _ => ?_))
  dsimp only [lCa, lNa]
  obtain ⟨e, he⟩ : ∃ e, (Di.evN ⟨l, 0⟩ i).event.1 = e := ⟨_, rfl⟩
  have hwf : e.Wf ∧ e.valid = true ∧ e.id = 0 := by rw [← he]; exact Di.event_wf _
  rw [he, ← hds]
  refine G.ld Gd.no (Ld.call cal15 rfl rfl (Tks.c (Tks.c (Tks.c (Tks.c (Tks.c (.nil _)))))) (fun F' hF => addS_ct F' g q1 q2 q3 _ _ [] [] rb rc sp Y D fi.fil.fine hcb hcp hnl hln (fun _ => fi.ag.yf) (hdO q1) e hwf.1) (fun ⟨rb2, rc2, sp2⟩ ⟨hcp2, hnl2⟩ => ?_))
  dsimp only [lCa, lNa]
  obtain ⟨he2, hout, fi2⟩ := fi.add (by omega) hwf.1 hwf.2.1 hwf.2.2
  obtain ⟨Y2, p2, hy⟩ : ∃ Y2 p2, Y.add D e = (Y2, p2) := ⟨_, _, rfl⟩
  obtain ⟨R2, E2, av, xv, hr⟩ : ∃ R2 E2 av xv, R.add D e = (R2, E2, av, xv) := ⟨_, _, _, _, rfl⟩
  rw [hy, hr] at he2 fi2
  rw [hr] at hout
  dsimp only at he2 fi2 hout
  subst he2
  rw [hy] at hcp2 hnl2 ⊢
  dsimp only at hcp2 hnl2 ⊢
  have hdO2 := fi2.dOf
  rw [hdO2 q1]
  refine G.q Gd.no (Qt.mv rfl) rfl ?_
  refine G.q Gd.no (Qt.ext rfl rfl) rfl ?_
  refine G.q Gd.no (Qt.ext rfl rfl) rfl ?_
  refine G.q Gd.no (Qt.asg rfl) rfl ?_
  refine G.q Gd.no (Qt.asg rfl) rfl ?_
  refine G.nil (GK.then (GC.seq (GC.region ?_)))
  refine G.q Gd.no (Qt.mv rfl) rfl ?_
  refine G.q Gd.no (Qt.neI rfl rfl) rfl ?_
  refine G.q Gd.no (Qt.mv rfl) rfl ?_
  apply G.andb (seg := [_, _])
  exact rfl
  exact rfl
  exact rfl
  exact Gd.no
  exact rfl
  exact rfl
  ·intro g3; try simp only [sB0, sB1, sB2, sB3, sB4, sB5, sB6, sB7, sB8] at g3
   refine G.q (Gd.yes rfl rfl) (Qt.mv rfl) rfl ?_
   refine G.q (Gd.yes rfl rfl) (Qt.neI rfl rfl) rfl ?_
   refine G.nil (GK.seg (n := [_, _]) rfl rfl rfl (by first | exact Tks.all _ | exact Tks.skip (Tks.all _) | exact Tks.skip (Tks.skip (Tks.all _)) | exact Tks.skip (Tks.skip (Tks.skip (Tks.all _)))))
  refine G.nil (GK.then ?_)
  refine GC.condb rfl (fun c3 => ?_) (fun c3 => ?_)
  ·try simp only [sB0, sB1, sB2, sB3, sB4, sB5, sB6, sB7, sB8] at c3
   omega
  ·try simp only [sB0, sB1, sB2, sB3, sB4, sB5, sB6, sB7, sB8] at c3
   refine GC.skip (GK.blockn (GK.then (GC.region ?_)))
   refine G.q Gd.no (Qt.mv rfl) rfl ?_
   refine G.q Gd.no (Qt.add rfl rfl (by first | exact i64_id (by omega) (by omega) | exact rfl)) rfl ?_
   refine G.q Gd.no (Qt.asg rfl) rfl ?_
   refine G.nil ?_
   refine GK.head (i + 1, Y2, R2, E2, rb2, rc2, sp2) ?_ ?_ ?_ ?_
   ·simp only; omega
   ·exact ⟨by simp only; omega, fi2, hcp2, hnl2⟩
   ·exact ⟨rfl, rfl, rfl, rfl, rfl, trivial⟩
   ·exact ⟨_, (Tks.c (Tks.c (Tks.c (Tks.c (Tks.c (Tks.c (.nil _)))))))⟩
 ·try simp only [sB0, sB1, sB2, sB3, sB4, sB5, sB6, sB7, sB8] at c2
  obtain rfl : i = k := by omega
  have hevs : Y.events = R.recsA D := by rw [fi.ag.events]; exact R.recsA_eq fi.fil.re
  refine GC.exit (GK.thene (GK.thene (GK.blocke (GK.then (GC.seq (GC.region ?_))))))
  refine G.q Gd.no (Qt.mv rfl) rfl ?_
  refine G.q Gd.no (Qt.mv rfl) rfl ?_
  refine G.q Gd.no (Qt.mv rfl) rfl ?_
  refine G.ld Gd.no (Ld.call cal18 rfl rfl (.nil _) (fun F' hF => records_ct F' g (some ⟨q1, 0, none⟩) rb rc Y (hF.own In.o) (VwF.oA (fun b hb => by subst hb; exact VwF.ofPre (hF.own In.o)) (fun e => by rw [(hnl e).1]; rfl)) hln) (fun ⟨ob, oc, ou⟩ ⟨hq1, hq2⟩ => ?_))
  dsimp only [lCa, lNa]
  have hel : Y.events.length = Y.recs.length := by simp [Lg.events]
  rw [hevs] at hel ⊢
  refine G.q Gd.no (Qt.asg rfl) rfl ?_
  refine G.q Gd.no (Qt.asg rfl) rfl ?_
  refine G.q Gd.no (Qt.asg rfl) rfl ?_
  refine G.q Gd.no (Qt.asg rfl) rfl ?_
  refine G.nil (GK.then (GC.ret ?_))
  refine GK.ret (rs := [.tmp 10, .tmp 11, .tmp 12, .tmp 13]) rfl (.tmp rfl (.tmp rfl (.tmp rfl (.tmp rfl .nil)))) ⟨q1, q2, q3, g, rb, rc, sp, ob, oc, ou, Y, R, D⟩ ?_ ?_ (Tks.c (Tks.c (Tks.c (Tks.c (Tks.c (Tks.c (.nil _)))))))
  ·exact ⟨fi, ⟨hcp, hnl⟩, by simp only; rw [hel]; exact hq1, fun e => ⟨List.eq_nil_of_length_eq_zero (by rw [hel, (hq2 e).1]; rfl), (hq2 e).2⟩⟩
  ·rfl
end Go.Proofs.Ytbeiciinppmekaa
