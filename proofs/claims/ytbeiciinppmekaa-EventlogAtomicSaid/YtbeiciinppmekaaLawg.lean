/-
  baseboardlaw09.EventlogAtomic returns true; its conditions are its premises: the numbers lie in memory.
-/
import Derived.Test.YtbeiciinppmekaaTb
import Derived.Test.YtbeiciinppmekaaLawf
import Derived.Test.YtbeiciinppmekaaSx16
import Derived.Test.YtbeiciinppmekaaProg
namespace Go.Proofs.Ytbeiciinppmekaa
open Go Go.Sx Go.Proofs
set_option maxRecDepth 100000
set_option linter.unusedSimpArgs false
set_option linter.unusedVariables false
theorem VwF.preO {F : Fr} {ob : Option Nat} {b' tl l : List Ev} {sp : List Value} {E : TypeId} (h : l = b' ++ tl) (hb : ∀ b, ob = some b → F.h b = some (Blk.cells (l.flatMap evC ++ sp) E).toObj) (hn : ob = none → l = []) : VwF F (Go.Sx.oA ob) (b'.flatMap evC) := by
  refine VwF.oA (fun b hb' => ?_) (fun e => ?_)
  · have h1 := VwF.ofPre (hb b hb')
    rw [h, List.flatMap_append] at h1
    exact h1.pre
  · have := hn e
    rw [this] at h
    have h2 : b' = [] := by cases b' with | nil => rfl | cons x xs => simp at h
    rw [h2]; rfl
set_option maxHeartbeats 1600000 in
theorem atomic_ct (F : Fr) (sectors size : Int) (over : Bool) (B : Option Addr) (l : List Int) (c : Nat) (n at_ torn : Int) (hB : VwF F B (vI .i64 l)) (ht : 0 ≤ torn ∧ torn ≤ 255) :
    Ct Try.prog F 3 [.int .i64 sectors, .int .i64 size, .bool over, .slice B l.length c, .int .i64 n, .int .i64 at_, .int .u8 torn] [] (S := Unit) (fun _ => True) (fun _ => .bool true) (fun _ => []) := by
 refine Ct.of 268 [(0, _), (1, _), (2, _), (3, _), (4, _), (5, _), (6, _)] Try.func3 rfl rfl rfl rfl ?_
 refine GC.seq (GC.region ?_)
 refine G.q Gd.no (Qt.asg rfl) rfl ?_
 refine G.nil (GK.then (GC.seq (GC.seq (GC.region ?_))))
 refine G.q Gd.no (Qt.mv rfl) rfl ?_
 refine G.ld Gd.no (Ld.call cal6 rfl rfl (.nil _) (fun F' hF => mlight_ct F' B _ _) (fun _ _ => ?_))
 dsimp only [lCa, lNa]
 refine G.q Gd.no (Qt.not rfl) rfl ?_
 refine G.nil (GK.then ?_)
 refine GC.condb rfl (fun c0 => ?_) (fun c0 => ?_)
 ·try simp only [sB0, sB1, sB2, sB3, sB4, sB5, sB6, sB7, sB8] at c0
  refine GC.seq (GC.region ?_)
  refine G.ld Gd.no (Ld.call cal7 rfl rfl (.nil _) (fun F' hF => awake_ct F') (fun _ _ => ?_))
  dsimp only [lCa, lNa]
  refine G.q Gd.no (Qt.asg rfl) rfl ?_
  refine G.nil (GK.then (GC.ret (GK.thenr ?_)))
  refine GK.ret (rs := [.tmp 14]) rfl (.tmp rfl .nil) () ?_ ?_ (.nil _)
  ·trivial
  ·rfl
 ·try simp only [sB0, sB1, sB2, sB3, sB4, sB5, sB6, sB7, sB8] at c0
  have hll : l.length ≤ 600 := by omega
  refine GC.skip (GK.then (GC.seq (GC.region ?_)))
  refine G.q Gd.no (Qt.mv rfl) rfl ?_
  refine G.q Gd.no (Qt.mv rfl) rfl ?_
  refine G.ld Gd.no (Ld.call cal8 rfl rfl (.nil _) (fun F' hF => geometry_ct F' _ _) (fun _ _ => ?_))
  dsimp only [lCa, lNa]
  obtain ⟨s, hs⟩ : ∃ s, 2 + sectors % 3 = s := ⟨_, rfl⟩
  obtain ⟨z, hz⟩ : ∃ z, 64 + size % 40 = z := ⟨_, rfl⟩
  rw [hs, hz]
  have hs2 : 2 ≤ s ∧ s ≤ 4 := by omega
  have hz2 : 64 ≤ z ∧ z ≤ 103 := by omega
  obtain ⟨k, hk⟩ : ∃ k : Nat, n % 30 = k := ⟨(n % 30).toNat, by omega⟩
  have hk30 : k ≤ 30 := by omega
  obtain ⟨dr, hdr⟩ : ∃ dr, slotsN z.toNat = dr := ⟨_, rfl⟩
  have hdrI : (z - 11) / 17 = (dr : Int) := by rw [← hdr]; unfold slotsN; omega
  refine G.q Gd.no (Qt.mv rfl) rfl ?_
  refine G.q Gd.no (Qt.ext rfl rfl) rfl ?_
  refine G.q Gd.no (Qt.ext rfl rfl) rfl ?_
  refine G.q Gd.no (Qt.asg rfl) rfl ?_
  refine G.q Gd.no (Qt.asg rfl) rfl ?_
  refine G.nil (GK.then (GC.seq (GC.region ?_)))
  refine G.q Gd.no (Qt.mv rfl) rfl ?_
  refine G.q Gd.no (Qt.mv rfl) rfl ?_
  refine G.q Gd.no (Qt.mv rfl) rfl ?_
  refine G.q Gd.no (Qt.mv rfl) rfl ?_
  refine G.q Gd.no (Qt.mv rfl) rfl ?_
  refine G.ld Gd.no (Ld.call cal10 rfl rfl (.nil _) (fun F' hF => mod_ct F' n 30 (by omega) (by omega)) (fun _ _ => ?_))
  dsimp only [lCa, lNa]
  rw [hk]
  refine G.ld Gd.no (Ld.call cal9 rfl rfl (.nil _) (fun F' hF => filled_ct F' s z over B l c k (hB.mono hF) hll hs2.1 (by omega) hz2.1 (by omega) (by omega)) (fun ⟨q1, q2, q3, g, rb, rc, sp, ob, oc, ou, Y, R, D⟩ ⟨fi, ⟨hcp, hnl⟩, ho⟩ => ?_))
  dsimp only [lCa, lNa]
  dsimp only at fi hcp hnl ho ⊢
  obtain ⟨bs, hbs⟩ : ∃ bs, R.recsA D = bs := ⟨_, rfl⟩
  have idB : IdOk bs := by rw [← hbs]; exact R.recsA_ids fi.fil.fine
  rw [hbs] at ho ⊢
  have hln := recs_len_bd fi.ag (by rw [fi.S]; omega)
  have hbl1 : bs.length = Y.recs.length := by rw [← hbs, ← R.recsA_eq fi.fil.re, ← fi.ag.events]; simp [Lg.events]
  have hbl : bs.length ≤ 16777216 := by omega
  refine G.q Gd.no (Qt.mv rfl) rfl ?_
  refine G.q Gd.no (Qt.ext rfl rfl) rfl ?_
  refine G.q Gd.no (Qt.ext rfl rfl) rfl ?_
  refine G.q Gd.no (Qt.ext rfl rfl) rfl ?_
  refine G.q Gd.no (Qt.ext rfl rfl) rfl ?_
  refine G.q Gd.no (Qt.asg rfl) rfl ?_
  refine G.q Gd.no (Qt.asg rfl) rfl ?_
  refine G.q Gd.no (Qt.asg rfl) rfl ?_
  refine G.q Gd.no (Qt.asg rfl) rfl ?_
  refine G.nil (GK.then (GC.seq (GC.region ?_)))
  refine G.q Gd.no (Qt.mv rfl) rfl ?_
  refine G.q Gd.no (Qt.mv rfl) rfl ?_
  refine G.ld Gd.no (Ld.call cal11 rfl rfl (.nil _) (fun F' hF => capacity_ct F' s z hs2.1 (by omega) hz2.1 (by omega)) (fun _ _ => ?_))
  dsimp only [lCa, lNa]
  rw [hdrI]
  refine G.q Gd.no (Qt.mv rfl) rfl ?_
  refine G.q Gd.no (Qt.ext rfl rfl) rfl ?_
  refine G.q Gd.no (Qt.ext rfl rfl) rfl ?_
  refine G.q Gd.no (Qt.ext rfl rfl) rfl ?_
  refine G.q Gd.no (Qt.asg rfl) rfl ?_
  refine G.q Gd.no (Qt.asg rfl) rfl ?_
  refine G.q Gd.no (Qt.asg rfl) rfl ?_
  refine G.nil (GK.then (GC.seq (GC.seq (GC.region ?_))))
  refine G.q Gd.no (Qt.mv rfl) rfl ?_
  refine G.q Gd.no (Qt.not rfl) rfl ?_
  refine G.q Gd.no (Qt.mv rfl) rfl ?_
  apply G.orb (seg := [_, _])
  exact rfl
  exact rfl
  exact rfl
  exact Gd.no
  exact rfl
  exact rfl
  ·intro g3; try simp only [sB0, sB1, sB2, sB3, sB4, sB5, sB6, sB7, sB8] at g3
   refine G.q (Gd.yes rfl rfl) (Qt.mv rfl) rfl ?_
   refine G.q (Gd.yes rfl rfl) (Qt.neI rfl rfl) rfl ?_
   refine G.nil (GK.seg (n := [_, _]) rfl rfl rfl (by first | exact Tks.all _ | exact Tks.skip (Tks.all _) | exact Tks.skip (Tks.skip (Tks.all _)) | exact Tks.skip (Tks.skip (Tks.skip (Tks.all _)))))
  refine G.nil (GK.then ?_)
  refine GC.condf rfl ?_
  refine GC.skip (GK.then (GC.seq (GC.region ?_)))
  refine G.q Gd.no (Qt.mv rfl) rfl ?_
  refine G.ld Gd.no (Ld.call cal12 rfl rfl (.nil _) (fun F' hF => roll_ct F' B _ _ l rfl) (fun qd _ => ?_))
  dsimp only [lCa, lNa]
  refine G.ld Gd.no (Ld.call cal13 rfl rfl (Tks.c (.nil _)) (fun F' hF => event_ct F' qd B c ⟨l, 0⟩ (hB.mono hF) (by simp only; omega)) (fun _ _ => ?_))
  dsimp only [lCa, lNa]
  obtain ⟨x, hx⟩ : ∃ x, (Di.event ⟨l, 0⟩).1 = x := ⟨_, rfl⟩
  have hwf : x.Wf ∧ x.valid = true ∧ x.id = 0 := by rw [← hx]; exact Di.event_wf _
  have hx0 : ({ x with id := 0 } : Ev) = x := by obtain ⟨a, _⟩ := x; have := hwf.2.2; simp only at this; rw [this]
  rw [hx]
  refine G.ld Gd.no (Ld.alloc rfl ze40 (by first | exact Cl.one rfl | exact Cl.agg) (fun b24 => ?_))
  refine G.ld Gd.no (Ld.stW (by exact z40) rfl rfl (evC_one _) (E := 40) (by rfl) UpdC.u ?_)
  refine G.nil (GK.then (GC.seq (GC.region ?_)))
  refine G.q Gd.no (Qt.mv rfl) rfl ?_
  refine G.q Gd.no (Qt.mv rfl) rfl ?_
  refine G.ld Gd.no (Ld.call cal10 rfl rfl (.nil _) (fun F' hF => mod_ct F' at_ 35 (by omega) (by omega)) (fun _ _ => ?_))
  dsimp only [lCa, lNa]
  refine G.q Gd.no (Qt.add rfl rfl (by first | exact i64_id (by omega) (by omega) | exact rfl)) rfl ?_
  obtain ⟨a, ha⟩ : ∃ a, 1 + at_ % 35 = a := ⟨_, rfl⟩
  have ha2 : a ≤ 80 := by omega
  rw [ha]
  refine G.q Gd.no (Qt.mv rfl) rfl ?_
  refine G.ld Gd.no (Ld.call cal14 rfl rfl (Tks.c (.nil _)) (fun F' hF => arm_ct F' q1 q2 q3 _ _ D a torn) (fun _ _ => ?_))
  dsimp only [lCa, lNa]
  obtain ⟨E, hE, hyr, fE, lE, dE, ag3, he3, law⟩ := fi.law (by omega) (by omega) ha2 ht hwf.1 hwf.2.1 hwf.2.2
  obtain ⟨la, ab, ad, aw⟩ := D.arm_like a torn
  have fD1 := Dev.arm_fine fi.fil.fine (t := torn) ha2
  have agD1 := fi.ag.same ab la fD1
  obtain ⟨D1, hD1⟩ : ∃ D1, D.arm a torn = D1 := ⟨_, rfl⟩
  rw [hD1] at hE hyr law la ab ad aw fD1 agD1
  have hcb1 : D1.n ≤ (s * z).toNat := by rw [la.1, fi.like.1]; exact Nat.le_refl _
  have hcbE : E.n ≤ (s * z).toNat := by rw [lE.1]; exact Nat.le_refl _
  have hnoE := noRoom_new lE hs2.1
  have hdO := fi.dOf
  rw [hD1, ← ab, ← aw]
  refine G.nil (GK.then (GC.seq (GC.region ?_)))
  refine G.q Gd.no (Qt.mv rfl) rfl ?_
  refine G.q Gd.no (Qt.ldW a40 rfl Rd.o z40) rfl ?_
  refine G.ld Gd.no (Ld.call cal15 rfl rfl (Tks.c (Tks.c (Tks.c (Tks.c (Tks.c (.nil _)))))) (fun F' hF => addS_ct F' g q1 q2 q3 _ _ [] [] rb rc sp Y D1 fD1 hcb1 hcp hnl hln (fun _ => agD1.yf) (hdO q1) x hwf.1) (fun ⟨rbx, rcx, spx⟩ _ => ?_))
  dsimp only [lCa, lNa]
  obtain ⟨Y2, p2, hy⟩ : ∃ Y2 p2, Y.add D1 x = (Y2, p2) := ⟨_, _, rfl⟩
  obtain ⟨R2, E0, idv, fv, hr⟩ : ∃ R2 E0 idv fv, R.add D1 x = (R2, E0, idv, fv) := ⟨_, _, _, _, rfl⟩
  rw [hy, hr] at hyr
  rw [hr] at hE law
  dsimp only at hE hyr law
  subst hyr
  rw [hy]
  dsimp only
  rw [hbs, hdr] at law
  obtain ⟨as_, has⟩ : ∃ as_, (Rl.open0 0 s over).recsA E = as_ := ⟨_, rfl⟩
  have idA : IdOk as_ := by rw [← has]; exact Rl.recsA_ids fE
  have hae : (openL 0 s over E).events = as_ := by rw [ag3.events, Rl.recsA_eq ag3.re]; exact has
  rw [has] at law
  obtain ⟨nx, kk, hr3⟩ : ∃ nx kk, ((Rl.open0 0 s over).add E x).2.2 = (nx, kk) := ⟨_, _, rfl⟩
  rw [hr3] at law
  refine G.q Gd.no (Qt.mv rfl) rfl ?_
  refine G.q Gd.no (Qt.ext rfl rfl) rfl ?_
  refine G.q Gd.no (Qt.ext rfl rfl) rfl ?_
  refine G.q Gd.no (Qt.asg rfl) rfl ?_
  refine G.q Gd.no (Qt.asg rfl) rfl ?_
  refine G.nil (GK.then (GC.seq (GC.region ?_)))
  refine G.q Gd.no (Qt.mv rfl) rfl ?_
  refine G.ld Gd.no (Ld.call cal16 rfl rfl (Tks.c (.nil _)) (fun F' hF => restore_ct F' q1 q2 q3 _ _ E0) (fun _ _ => ?_))
  dsimp only [lCa, lNa]
  have ab2 : E.bytes = E0.bytes := by rw [← hE]; rfl
  have aw2 : E.wear = E0.wear := by rw [← hE]; rfl
  rw [hE, ← ab2, ← aw2]
  refine G.nil (GK.then (GC.seq (GC.region ?_)))
  refine G.q Gd.no (Qt.mv rfl) rfl ?_
  refine G.q Gd.no (Qt.mv rfl) rfl ?_
  refine G.q Gd.no (Qt.mv rfl) rfl ?_
  refine G.ld Gd.no (Ld.call cal17 rfl rfl (.nil _) (fun F' hF => goUp_ct F' q1 q2 q3 _ _ [] E (hF.own In.o) (hF.own In.o) fE hcbE 0 s over hnoE dE (by rw [lE.2.2]; exact hz2.1) (by omega)) (fun ⟨g2, rb2, rc2, sp2⟩ ⟨i1, i2, i3⟩ => ?_))
  dsimp only [lCa, lNa]
  refine G.q Gd.no (Qt.mv rfl) rfl ?_
  refine G.q Gd.no (Qt.ext rfl rfl) rfl ?_
  refine G.q Gd.no (Qt.ext rfl rfl) rfl ?_
  refine G.q Gd.no (Qt.asg rfl) rfl ?_
  refine G.q Gd.no (Qt.asg rfl) rfl ?_
  refine G.nil (GK.then (GC.seq (GC.seq (GC.region ?_))))
  refine G.q Gd.no (Qt.mv rfl) rfl ?_
  refine G.q Gd.no (Qt.eqPn Try.underlying28 rfl rfl) rfl ?_
  refine G.q Gd.no (Qt.mv rfl) rfl ?_
  apply G.orb (seg := [_, _])
  exact rfl
  exact rfl
  exact rfl
  exact Gd.no
  exact rfl
  exact rfl
  ·intro g3; try simp only [sB0, sB1, sB2, sB3, sB4, sB5, sB6, sB7, sB8] at g3
   refine G.q (Gd.yes rfl rfl) (Qt.mv rfl) rfl ?_
   refine G.q (Gd.yes rfl rfl) (Qt.neI rfl rfl) rfl ?_
   refine G.nil (GK.seg (n := [_, _]) rfl rfl rfl (by first | exact Tks.all _ | exact Tks.skip (Tks.all _) | exact Tks.skip (Tks.skip (Tks.all _)) | exact Tks.skip (Tks.skip (Tks.skip (Tks.all _)))))
  refine G.nil (GK.then ?_)
  refine GC.condf rfl ?_
  refine GC.skip (GK.then (GC.seq (GC.region ?_)))
  refine G.q Gd.no (Qt.mv rfl) rfl ?_
  refine G.ld Gd.no (Ld.call cal18 rfl rfl (.nil _) (fun F' hF => records_ct F' g2 (some ⟨q1, 0, none⟩) rb2 rc2 (openL 0 s over E) (hF.own In.o) (VwF.oA (fun b hb => by subst hb; exact VwF.ofPre (hF.own In.o)) (fun e => by rw [(i2 e).1]; rfl)) i3) (fun ⟨qa, ca, sa⟩ hqr => ?_))
  dsimp only [lCa, lNa]
  have hael : as_.length = (openL 0 s over E).recs.length := by rw [← hae]; simp [Lg.events]
  have hqa : as_.length * 10 + sa.length = ca * 10 ∧ (qa = none → as_ = [] ∧ sa = []) := ⟨by rw [hael]; exact hqr.1, fun e => ⟨List.eq_nil_of_length_eq_zero (by rw [hael, (hqr.2 e).1]; rfl), (hqr.2 e).2⟩⟩
  have hal : as_.length ≤ 16777216 := by omega
  rw [hae]
  refine G.q Gd.no (Qt.asg rfl) rfl ?_
  refine G.nil (GK.then (GC.seq (GC.seq (GC.region ?_))))
  refine G.q Gd.no (Qt.mv rfl) rfl ?_
  refine G.q Gd.no (Qt.eqI rfl rfl) rfl ?_
  refine G.nil (GK.then ?_)
  refine GC.condb rfl (fun c3 => ?_) (fun c3 => ?_)
  ·try simp only [sB0, sB1, sB2, sB3, sB4, sB5, sB6, sB7, sB8] at c3
   obtain ⟨hov, hasb⟩ := law.full c3
   refine GC.seq (GC.region ?_)
   refine G.q Gd.no (Qt.mv rfl) rfl ?_
   refine G.q Gd.no (Qt.not rfl) rfl ?_
   refine G.q Gd.no (Qt.mv rfl) rfl ?_
   apply G.andb (seg := [_, _, _])
   exact rfl
   exact rfl
   exact rfl
   exact Gd.no
   exact rfl
   exact rfl
   ·intro g3; try simp only [sB0, sB1, sB2, sB3, sB4, sB5, sB6, sB7, sB8] at g3
    refine G.q (Gd.yes rfl rfl) (Qt.mv rfl) rfl ?_
    refine G.q (Gd.yes rfl rfl) (Qt.mv rfl) rfl ?_
    refine G.ld (Gd.yes rfl rfl) (Ld.call cal19 rfl rfl (.nil _) (fun F' hF => slist_ct F' _ _ _ _ as_ bs (VwF.oA (fun b hb => by subst hb; exact VwF.ofPre (hF.own In.o)) (fun e => by rw [(hqa.2 e).1]; rfl)) (VwF.oA (fun b hb => by subst hb; exact VwF.ofPre (hF.own In.o)) (fun e => by rw [(ho.2 e).1]; rfl)) (by omega) (by omega)) (fun _ _ => ?_))
    dsimp only [lCa, lNa]
    refine G.nil (GK.seg (n := [_, _, _]) rfl rfl rfl (by first | exact Tks.all _ | exact Tks.skip (Tks.all _) | exact Tks.skip (Tks.skip (Tks.all _)) | exact Tks.skip (Tks.skip (Tks.skip (Tks.all _)))))
   refine G.q Gd.no (Qt.mv rfl) rfl ?_
   apply G.andb (seg := [_])
   exact rfl
   exact rfl
   exact rfl
   exact Gd.no
   exact rfl
   exact rfl
   ·intro g8; try simp only [sB0, sB1, sB2, sB3, sB4, sB5, sB6, sB7, sB8] at g8
    refine G.ld (Gd.yes rfl rfl) (Ld.call cal7 rfl rfl (.nil _) (fun F' hF => awake_ct F') (fun _ _ => ?_))
    dsimp only [lCa, lNa]
    refine G.nil (GK.seg (n := [_]) rfl rfl rfl (by first | exact Tks.all _ | exact Tks.skip (Tks.all _) | exact Tks.skip (Tks.skip (Tks.all _)) | exact Tks.skip (Tks.skip (Tks.skip (Tks.all _)))))
   refine G.q Gd.no (Qt.asg rfl) rfl ?_
   refine G.nil (GK.then (GC.ret (GK.thenr ?_)))
   refine GK.ret (rs := [.tmp 14]) rfl (.tmp rfl .nil) () ?_ ?_ (.nil _)
   ·trivial
   ·(simp [tup, hov, hasb])
  ·try simp only [sB0, sB1, sB2, sB3, sB4, sB5, sB6, sB7, sB8] at c3
   obtain ⟨hfv, b', hkp, hgr⟩ := law.part c3
   have hsec := law.second c3
   refine GC.skip (GK.then (GC.seq ?_))
   refine GC.draw mixed _ (Held.tk (b := qa) (Held.tk (b := ob) Held.none)) ?_
   refine GH.join (S := Unit) (fun _s => True) (fun _s => [(2, .bool over), (19, .slice (oA ob) bs.length oc), (22, .int .i64 (dr : Int)), (24, .pointer (some ⟨b24, 0, none⟩)), (25, .int .u16 idv), (26, .int .i64 fv), (27, .pointer (some ⟨g2, 0, none⟩)), (29, .slice (oA qa) as_.length ca), (30, .bool (grownB as_ bs))]) (fun _s => [(some g2, .cells (lgC (openL 0 s over E) (some ⟨q1, 0, none⟩) rb2 rc2) 85), (rb2, .cells ((openL 0 s over E).recs.flatMap recC ++ sp2) 90), (some q1, .cells (devC E q2 q3 (s * z).toNat s.toNat) 81), (some q2, .cells (vI .u8 E.bytes ++ []) 5), (some q3, .cells (vI .i64 E.wear ++ []) 3), (qa, .cells (as_.flatMap evC ++ sa) 40), (ob, .cells (bs.flatMap evC ++ ou) 40), (some b24, .cells (evC x) 40)]) (fun cut18 => ?_) ?_
   ·skip
    refine GT 0 1 rfl (by kernel_rfl) rfl rfl Gd.no (Qt.mv rfl) Held.c ?_
    refine GT 1 3 rfl (by kernel_rfl) rfl rfl Gd.no (Qt.lenS (rt := 0) Try.underlying29 rfl) Held.c ?_
    refine GT 2 7 rfl (by kernel_rfl) rfl rfl Gd.no (Qt.gtr rfl rfl) Held.c ?_
    refine GT 3 15 rfl (by kernel_rfl) rfl rfl Gd.no (Qt.mv rfl) Held.c ?_
    refine GH.split (tg := 119) rfl (fun g3 => ?_) (fun g3 => ?_)
    ·try simp only [sB0, sB1, sB2, sB3, sB4, sB5, sB6, sB7, sB8] at g3
     refine GT 4 31 rfl (by kernel_rfl) rfl rfl (Gd.yes rfl rfl) (Qt.mv rfl) Held.c ?_
     refine GT 5 63 rfl (by kernel_rfl) rfl rfl (Gd.yes rfl rfl) (Qt.lenS (rt := 0) Try.underlying29 rfl) Held.c ?_
     refine GT 6 127 rfl (by kernel_rfl) rfl rfl (Gd.yes rfl rfl) (Qt.gtr rfl rfl) Held.c ?_
     refine GT 7 255 rfl (by kernel_rfl) rfl rfl Gd.no (Qt.pickt rfl rfl) Held.c ?_
     refine GT 8 511 rfl (by kernel_rfl) rfl rfl Gd.no (Qt.mv rfl) Held.c ?_
     refine GH.split (tg := 124) rfl (fun g8 => ?_) (fun g8 => ?_)
     ·try simp only [sB0, sB1, sB2, sB3, sB4, sB5, sB6, sB7, sB8] at g8
      have hla0 : 0 < as_.length := by omega
      have hlb0 : 0 < bs.length := by omega
      obtain ⟨ba, rfl⟩ : ∃ ba, qa = some ba := by
       cases qa with
       | none => exact absurd (hqa.2 rfl).1 (by intro e; rw [e] at hla0; simp at hla0)
       | some ba => exact ⟨ba, rfl⟩
      have hla := lastE_get hla0
      have hlaI := idA.last hla0
      obtain ⟨bb, rfl⟩ : ∃ bb, ob = some bb := by
       cases ob with
       | none => exact absurd (ho.2 rfl).1 (by intro e; rw [e] at hlb0; simp at hlb0)
       | some bb => exact ⟨bb, rfl⟩
      have hlb := lastE_get hlb0
      have hlbI := idB.last hlb0
      refine GT 9 1023 rfl (by kernel_rfl) rfl rfl (Gd.yes rfl rfl) (Qt.mv rfl) Held.c ?_
      refine GT 10 2047 rfl (by kernel_rfl) rfl rfl (Gd.yes rfl rfl) (Qt.mv rfl) Held.c ?_
      refine GT 11 4095 rfl (by kernel_rfl) rfl rfl (Gd.yes rfl rfl) (Qt.lenS (rt := 0) Try.underlying29 rfl) Held.c ?_
      refine GT 12 8191 rfl (by kernel_rfl) rfl rfl (Gd.yes rfl rfl) (Qt.sub rfl rfl (by first | exact i64_id (by omega) (by omega) | exact rfl)) Held.c ?_
      refine GT 13 16383 rfl (by kernel_rfl) rfl rfl (Gd.yes rfl rfl) (Qt.iab0 Try.underlying29 z40 rfl rfl (by omega) (by omega) (show ((as_.length : Int) - 1).toNat = as_.length - 1 by omega)) Held.c ?_
      refine GT 14 32767 rfl (by kernel_rfl) rfl rfl (Gd.yes rfl rfl) (Qt.fa fl40_0 rfl) Held.c ?_
      refine GT 15 65535 rfl (by kernel_rfl) rfl rfl (Gd.yes rfl rfl) (Qt.ldc a36 rfl (Rdc.o (evs_id hla))) Held.c ?_
      refine GT 16 131071 rfl (by kernel_rfl) rfl rfl (Gd.yes rfl rfl) (Qt.mv rfl) Held.c ?_
      refine GT 17 262143 rfl (by kernel_rfl) rfl rfl (Gd.yes rfl rfl) (Qt.mv rfl) Held.c ?_
      refine GT 18 524287 rfl (by kernel_rfl) rfl rfl (Gd.yes rfl rfl) (Qt.lenS (rt := 0) Try.underlying29 rfl) Held.c ?_
      refine GT 19 1048575 rfl (by kernel_rfl) rfl rfl (Gd.yes rfl rfl) (Qt.sub rfl rfl (by first | exact i64_id (by omega) (by omega) | exact rfl)) Held.c ?_
      refine GT 20 2097151 rfl (by kernel_rfl) rfl rfl (Gd.yes rfl rfl) (Qt.iab0 Try.underlying29 z40 rfl rfl (by omega) (by omega) (show ((bs.length : Int) - 1).toNat = bs.length - 1 by omega)) Held.c ?_
      refine GT 21 4194303 rfl (by kernel_rfl) rfl rfl (Gd.yes rfl rfl) (Qt.fa fl40_0 rfl) Held.c ?_
      refine GT 22 8388607 rfl (by kernel_rfl) rfl rfl (Gd.yes rfl rfl) (Qt.ldc a36 rfl (Rdc.o (evs_id hlb))) Held.c ?_
      refine GT 23 16777215 rfl (by kernel_rfl) rfl rfl (Gd.yes rfl rfl) (Qt.rem rfl rfl (by omega) (by first | exact rem_nn (by omega) | exact rfl)) Held.c ?_
      refine GT 24 33554431 rfl (by kernel_rfl) rfl rfl (Gd.yes rfl rfl) (Qt.add rfl rfl (by first | exact u16_id (by omega) (by omega) | exact rfl)) Held.c ?_
      refine GT 25 67108863 rfl (by kernel_rfl) rfl rfl (Gd.yes rfl rfl) (Qt.eqI rfl rfl) Held.c ?_
      refine GT 26 134217727 rfl (by kernel_rfl) rfl rfl Gd.no (Qt.pickt rfl rfl) Held.c ?_
      refine GT 27 268435455 rfl (by kernel_rfl) rfl rfl Gd.no (Qt.mv rfl) Held.c ?_
      refine GH.split (tg := 143) rfl (fun g27 => ?_) (fun g27 => ?_)
      ·try simp only [sB0, sB1, sB2, sB3, sB4, sB5, sB6, sB7, sB8] at g27
       refine GP 28 536870911 rfl (by kernel_rfl) rfl rfl rfl rfl rfl Held.c ?_
       refine GP 29 1073741823 rfl (by kernel_rfl) rfl rfl rfl rfl rfl Held.c ?_
       refine GP 30 2147483647 rfl (by kernel_rfl) rfl rfl rfl rfl rfl Held.c ?_
       refine GP 31 4294967295 rfl (by kernel_rfl) rfl rfl rfl rfl rfl Held.c ?_
       refine GU 32 8589934591 rfl (by kernel_rfl) rfl rfl rfl rfl Held.c ?_
       refine GU 33 17179869183 rfl (by kernel_rfl) rfl rfl rfl rfl Held.c ?_
       refine GU 34 34359738367 rfl (by kernel_rfl) rfl rfl rfl rfl Held.c ?_
       refine GP 35 68719476735 rfl (by kernel_rfl) rfl rfl rfl rfl rfl Held.c ?_
       refine GT 36 137438953471 rfl (by kernel_rfl) rfl rfl Gd.no (Qt.pickt rfl rfl) Held.c ?_
       refine GT 37 274877906943 rfl (by kernel_rfl) rfl rfl Gd.no (Qt.asg rfl) Held.c ?_
       refine GH.done (by kernel_rfl) (GK.meet cut18 () trivial ⟨rfl, rfl, rfl, rfl, rfl, rfl, rfl, rfl, (congrArg (fun b => some (Value.bool b)) (by unfold grownB; rw [Bool.eq_iff_iff]; simp only [decide_eq_true_eq, Bool.false_eq_true, true_iff, false_iff]; omega)), trivial⟩ ⟨_, (Tks.c (Tks.c (Tks.c (Tks.c (Tks.c (Tks.c (Tks.c (Tks.c (.nil _)))))))))⟩)
      ·try simp only [sB0, sB1, sB2, sB3, sB4, sB5, sB6, sB7, sB8] at g27
       refine GT 28 536870911 rfl (by kernel_rfl) rfl rfl (Gd.yes rfl rfl) (Qt.mv rfl) Held.c ?_
       refine GT 29 1073741823 rfl (by kernel_rfl) rfl rfl (Gd.yes rfl rfl) (Qt.lenS (rt := 0) Try.underlying29 rfl) Held.c ?_
       refine GT 30 2147483647 rfl (by kernel_rfl) rfl rfl (Gd.yes rfl rfl) (Qt.eqI rfl rfl) Held.c ?_
       refine GT 31 4294967295 rfl (by kernel_rfl) rfl rfl (Gd.yes rfl rfl) (Qt.mv rfl) Held.c ?_
       refine GH.split (tg := 147) rfl (fun g31 => ?_) (fun g31 => ?_)
       ·try simp only [sB0, sB1, sB2, sB3, sB4, sB5, sB6, sB7, sB8] at g31
        refine GT 32 8589934591 rfl (by kernel_rfl) rfl rfl (Gd.yes rfl rfl) (Qt.mv rfl) Held.c ?_
        refine GT 33 17179869183 rfl (by kernel_rfl) rfl rfl (Gd.yes rfl rfl) (Qt.lenS (rt := 0) Try.underlying29 rfl) Held.c ?_
        refine GT 34 34359738367 rfl (by kernel_rfl) rfl rfl (Gd.yes rfl rfl) (Qt.eqI rfl rfl) Held.c ?_
        refine GT 35 68719476735 rfl (by kernel_rfl) rfl rfl (Gd.yes rfl rfl) (Qt.pickt rfl rfl) Held.c ?_
        refine GT 36 137438953471 rfl (by kernel_rfl) rfl rfl Gd.no (Qt.pickf rfl rfl) Held.c ?_
        refine GT 37 274877906943 rfl (by kernel_rfl) rfl rfl Gd.no (Qt.asg rfl) Held.c ?_
        refine GH.done (by kernel_rfl) (GK.meet cut18 () trivial ⟨rfl, rfl, rfl, rfl, rfl, rfl, rfl, rfl, (congrArg (fun b => some (Value.bool b)) (by unfold grownB; rw [Bool.eq_iff_iff]; simp only [decide_eq_true_eq, Bool.false_eq_true, true_iff, false_iff]; omega)), trivial⟩ ⟨_, (Tks.c (Tks.c (Tks.c (Tks.c (Tks.c (Tks.c (Tks.c (Tks.c (.nil _)))))))))⟩)
       ·try simp only [sB0, sB1, sB2, sB3, sB4, sB5, sB6, sB7, sB8] at g31
        refine GP 32 8589934591 rfl (by kernel_rfl) rfl rfl rfl rfl rfl Held.c ?_
        refine GP 33 17179869183 rfl (by kernel_rfl) rfl rfl rfl rfl rfl Held.c ?_
        refine GP 34 34359738367 rfl (by kernel_rfl) rfl rfl rfl rfl rfl Held.c ?_
        refine GT 35 68719476735 rfl (by kernel_rfl) rfl rfl (Gd.yes rfl rfl) (Qt.pickf rfl rfl) Held.c ?_
        refine GT 36 137438953471 rfl (by kernel_rfl) rfl rfl Gd.no (Qt.pickf rfl rfl) Held.c ?_
        refine GT 37 274877906943 rfl (by kernel_rfl) rfl rfl Gd.no (Qt.asg rfl) Held.c ?_
        refine GH.done (by kernel_rfl) (GK.meet cut18 () trivial ⟨rfl, rfl, rfl, rfl, rfl, rfl, rfl, rfl, (congrArg (fun b => some (Value.bool b)) (by unfold grownB; rw [Bool.eq_iff_iff]; simp only [decide_eq_true_eq, Bool.false_eq_true, true_iff, false_iff]; omega)), trivial⟩ ⟨_, (Tks.c (Tks.c (Tks.c (Tks.c (Tks.c (Tks.c (Tks.c (Tks.c (.nil _)))))))))⟩)
     ·try simp only [sB0, sB1, sB2, sB3, sB4, sB5, sB6, sB7, sB8] at g8
      refine GP 9 1023 rfl (by kernel_rfl) rfl rfl rfl rfl rfl Held.c ?_
      refine GP 10 2047 rfl (by kernel_rfl) rfl rfl rfl rfl rfl Held.c ?_
      refine GP 11 4095 rfl (by kernel_rfl) rfl rfl rfl rfl rfl Held.c ?_
      refine GP 12 8191 rfl (by kernel_rfl) rfl rfl rfl rfl rfl Held.c ?_
      refine GP 13 16383 rfl (by kernel_rfl) rfl rfl rfl rfl rfl Held.c ?_
      refine GP 14 32767 rfl (by kernel_rfl) rfl rfl rfl rfl rfl Held.c ?_
      refine GP 15 65535 rfl (by kernel_rfl) rfl rfl rfl rfl rfl Held.c ?_
      refine GP 16 131071 rfl (by kernel_rfl) rfl rfl rfl rfl rfl Held.c ?_
      refine GP 17 262143 rfl (by kernel_rfl) rfl rfl rfl rfl rfl Held.c ?_
      refine GP 18 524287 rfl (by kernel_rfl) rfl rfl rfl rfl rfl Held.c ?_
      refine GP 19 1048575 rfl (by kernel_rfl) rfl rfl rfl rfl rfl Held.c ?_
      refine GP 20 2097151 rfl (by kernel_rfl) rfl rfl rfl rfl rfl Held.c ?_
      refine GP 21 4194303 rfl (by kernel_rfl) rfl rfl rfl rfl rfl Held.c ?_
      refine GP 22 8388607 rfl (by kernel_rfl) rfl rfl rfl rfl rfl Held.c ?_
      refine GP 23 16777215 rfl (by kernel_rfl) rfl rfl rfl rfl rfl Held.c ?_
      refine GP 24 33554431 rfl (by kernel_rfl) rfl rfl rfl rfl rfl Held.c ?_
      refine GP 25 67108863 rfl (by kernel_rfl) rfl rfl rfl rfl rfl Held.c ?_
      refine GT 26 134217727 rfl (by kernel_rfl) rfl rfl Gd.no (Qt.pickf rfl rfl) Held.c ?_
      refine GT 27 268435455 rfl (by kernel_rfl) rfl rfl Gd.no (Qt.mv rfl) Held.c ?_
      refine GT 28 536870911 rfl (by kernel_rfl) rfl rfl (Gd.yes rfl rfl) (Qt.mv rfl) Held.c ?_
      refine GT 29 1073741823 rfl (by kernel_rfl) rfl rfl (Gd.yes rfl rfl) (Qt.lenS (rt := 0) Try.underlying29 rfl) Held.c ?_
      refine GT 30 2147483647 rfl (by kernel_rfl) rfl rfl (Gd.yes rfl rfl) (Qt.eqI rfl rfl) Held.c ?_
      refine GT 31 4294967295 rfl (by kernel_rfl) rfl rfl (Gd.yes rfl rfl) (Qt.mv rfl) Held.c ?_
      refine GH.split (tg := 147) rfl (fun g31 => ?_) (fun g31 => ?_)
      ·try simp only [sB0, sB1, sB2, sB3, sB4, sB5, sB6, sB7, sB8] at g31
       refine GT 32 8589934591 rfl (by kernel_rfl) rfl rfl (Gd.yes rfl rfl) (Qt.mv rfl) Held.c ?_
       refine GT 33 17179869183 rfl (by kernel_rfl) rfl rfl (Gd.yes rfl rfl) (Qt.lenS (rt := 0) Try.underlying29 rfl) Held.c ?_
       refine GT 34 34359738367 rfl (by kernel_rfl) rfl rfl (Gd.yes rfl rfl) (Qt.eqI rfl rfl) Held.c ?_
       refine GT 35 68719476735 rfl (by kernel_rfl) rfl rfl (Gd.yes rfl rfl) (Qt.pickt rfl rfl) Held.c ?_
       refine GT 36 137438953471 rfl (by kernel_rfl) rfl rfl Gd.no (Qt.pickf rfl rfl) Held.c ?_
       refine GT 37 274877906943 rfl (by kernel_rfl) rfl rfl Gd.no (Qt.asg rfl) Held.c ?_
       refine GH.done (by kernel_rfl) (GK.meet cut18 () trivial ⟨rfl, rfl, rfl, rfl, rfl, rfl, rfl, rfl, (congrArg (fun b => some (Value.bool b)) (by unfold grownB; rw [Bool.eq_iff_iff]; simp only [decide_eq_true_eq, Bool.false_eq_true, true_iff, false_iff]; omega)), trivial⟩ ⟨_, (Tks.c (Tks.c (Tks.c (Tks.c (Tks.c (Tks.c (Tks.c (Tks.c (.nil _)))))))))⟩)
      ·try simp only [sB0, sB1, sB2, sB3, sB4, sB5, sB6, sB7, sB8] at g31
       refine GP 32 8589934591 rfl (by kernel_rfl) rfl rfl rfl rfl rfl Held.c ?_
       refine GP 33 17179869183 rfl (by kernel_rfl) rfl rfl rfl rfl rfl Held.c ?_
       refine GP 34 34359738367 rfl (by kernel_rfl) rfl rfl rfl rfl rfl Held.c ?_
       refine GT 35 68719476735 rfl (by kernel_rfl) rfl rfl (Gd.yes rfl rfl) (Qt.pickf rfl rfl) Held.c ?_
       refine GT 36 137438953471 rfl (by kernel_rfl) rfl rfl Gd.no (Qt.pickf rfl rfl) Held.c ?_
       refine GT 37 274877906943 rfl (by kernel_rfl) rfl rfl Gd.no (Qt.asg rfl) Held.c ?_
       refine GH.done (by kernel_rfl) (GK.meet cut18 () trivial ⟨rfl, rfl, rfl, rfl, rfl, rfl, rfl, rfl, (congrArg (fun b => some (Value.bool b)) (by unfold grownB; rw [Bool.eq_iff_iff]; simp only [decide_eq_true_eq, Bool.false_eq_true, true_iff, false_iff]; omega)), trivial⟩ ⟨_, (Tks.c (Tks.c (Tks.c (Tks.c (Tks.c (Tks.c (Tks.c (Tks.c (.nil _)))))))))⟩)
    ·try simp only [sB0, sB1, sB2, sB3, sB4, sB5, sB6, sB7, sB8] at g3
     refine GP 4 31 rfl (by kernel_rfl) rfl rfl rfl rfl rfl Held.c ?_
     refine GP 5 63 rfl (by kernel_rfl) rfl rfl rfl rfl rfl Held.c ?_
     refine GP 6 127 rfl (by kernel_rfl) rfl rfl rfl rfl rfl Held.c ?_
     refine GT 7 255 rfl (by kernel_rfl) rfl rfl Gd.no (Qt.pickf rfl rfl) Held.c ?_
     refine GT 8 511 rfl (by kernel_rfl) rfl rfl Gd.no (Qt.mv rfl) Held.c ?_
     refine GP 9 1023 rfl (by kernel_rfl) rfl rfl rfl rfl rfl Held.c ?_
     refine GP 10 2047 rfl (by kernel_rfl) rfl rfl rfl rfl rfl Held.c ?_
     refine GP 11 4095 rfl (by kernel_rfl) rfl rfl rfl rfl rfl Held.c ?_
     refine GP 12 8191 rfl (by kernel_rfl) rfl rfl rfl rfl rfl Held.c ?_
     refine GP 13 16383 rfl (by kernel_rfl) rfl rfl rfl rfl rfl Held.c ?_
     refine GP 14 32767 rfl (by kernel_rfl) rfl rfl rfl rfl rfl Held.c ?_
     refine GP 15 65535 rfl (by kernel_rfl) rfl rfl rfl rfl rfl Held.c ?_
     refine GP 16 131071 rfl (by kernel_rfl) rfl rfl rfl rfl rfl Held.c ?_
     refine GP 17 262143 rfl (by kernel_rfl) rfl rfl rfl rfl rfl Held.c ?_
     refine GP 18 524287 rfl (by kernel_rfl) rfl rfl rfl rfl rfl Held.c ?_
     refine GP 19 1048575 rfl (by kernel_rfl) rfl rfl rfl rfl rfl Held.c ?_
     refine GP 20 2097151 rfl (by kernel_rfl) rfl rfl rfl rfl rfl Held.c ?_
     refine GP 21 4194303 rfl (by kernel_rfl) rfl rfl rfl rfl rfl Held.c ?_
     refine GP 22 8388607 rfl (by kernel_rfl) rfl rfl rfl rfl rfl Held.c ?_
     refine GP 23 16777215 rfl (by kernel_rfl) rfl rfl rfl rfl rfl Held.c ?_
     refine GP 24 33554431 rfl (by kernel_rfl) rfl rfl rfl rfl rfl Held.c ?_
     refine GP 25 67108863 rfl (by kernel_rfl) rfl rfl rfl rfl rfl Held.c ?_
     refine GT 26 134217727 rfl (by kernel_rfl) rfl rfl Gd.no (Qt.pickf rfl rfl) Held.c ?_
     refine GT 27 268435455 rfl (by kernel_rfl) rfl rfl Gd.no (Qt.mv rfl) Held.c ?_
     refine GT 28 536870911 rfl (by kernel_rfl) rfl rfl (Gd.yes rfl rfl) (Qt.mv rfl) Held.c ?_
     refine GT 29 1073741823 rfl (by kernel_rfl) rfl rfl (Gd.yes rfl rfl) (Qt.lenS (rt := 0) Try.underlying29 rfl) Held.c ?_
     refine GT 30 2147483647 rfl (by kernel_rfl) rfl rfl (Gd.yes rfl rfl) (Qt.eqI rfl rfl) Held.c ?_
     refine GT 31 4294967295 rfl (by kernel_rfl) rfl rfl (Gd.yes rfl rfl) (Qt.mv rfl) Held.c ?_
     refine GH.split (tg := 147) rfl (fun g31 => ?_) (fun g31 => ?_)
     ·try simp only [sB0, sB1, sB2, sB3, sB4, sB5, sB6, sB7, sB8] at g31
      refine GT 32 8589934591 rfl (by kernel_rfl) rfl rfl (Gd.yes rfl rfl) (Qt.mv rfl) Held.c ?_
      refine GT 33 17179869183 rfl (by kernel_rfl) rfl rfl (Gd.yes rfl rfl) (Qt.lenS (rt := 0) Try.underlying29 rfl) Held.c ?_
      refine GT 34 34359738367 rfl (by kernel_rfl) rfl rfl (Gd.yes rfl rfl) (Qt.eqI rfl rfl) Held.c ?_
      refine GT 35 68719476735 rfl (by kernel_rfl) rfl rfl (Gd.yes rfl rfl) (Qt.pickt rfl rfl) Held.c ?_
      refine GT 36 137438953471 rfl (by kernel_rfl) rfl rfl Gd.no (Qt.pickf rfl rfl) Held.c ?_
      refine GT 37 274877906943 rfl (by kernel_rfl) rfl rfl Gd.no (Qt.asg rfl) Held.c ?_
      refine GH.done (by kernel_rfl) (GK.meet cut18 () trivial ⟨rfl, rfl, rfl, rfl, rfl, rfl, rfl, rfl, (congrArg (fun b => some (Value.bool b)) (by unfold grownB; rw [Bool.eq_iff_iff]; simp only [decide_eq_true_eq, Bool.false_eq_true, true_iff, false_iff]; omega)), trivial⟩ ⟨_, (Tks.c (Tks.c (Tks.c (Tks.c (Tks.c (Tks.c (Tks.c (Tks.c (.nil _)))))))))⟩)
     ·try simp only [sB0, sB1, sB2, sB3, sB4, sB5, sB6, sB7, sB8] at g31
      refine GP 32 8589934591 rfl (by kernel_rfl) rfl rfl rfl rfl rfl Held.c ?_
      refine GP 33 17179869183 rfl (by kernel_rfl) rfl rfl rfl rfl rfl Held.c ?_
      refine GP 34 34359738367 rfl (by kernel_rfl) rfl rfl rfl rfl rfl Held.c ?_
      refine GT 35 68719476735 rfl (by kernel_rfl) rfl rfl (Gd.yes rfl rfl) (Qt.pickf rfl rfl) Held.c ?_
      refine GT 36 137438953471 rfl (by kernel_rfl) rfl rfl Gd.no (Qt.pickf rfl rfl) Held.c ?_
      refine GT 37 274877906943 rfl (by kernel_rfl) rfl rfl Gd.no (Qt.asg rfl) Held.c ?_
      refine GH.done (by kernel_rfl) (GK.meet cut18 () trivial ⟨rfl, rfl, rfl, rfl, rfl, rfl, rfl, rfl, (congrArg (fun b => some (Value.bool b)) (by unfold grownB; rw [Bool.eq_iff_iff]; simp only [decide_eq_true_eq, Bool.false_eq_true, true_iff, false_iff]; omega)), trivial⟩ ⟨_, (Tks.c (Tks.c (Tks.c (Tks.c (Tks.c (Tks.c (Tks.c (Tks.c (.nil _)))))))))⟩)
   ·intro _s _hs
    refine GK.then (GC.seq (GC.region ?_))
    refine G.q Gd.no (Qt.mv rfl) rfl ?_
    refine G.q Gd.no (Qt.asg rfl) rfl ?_
    refine G.nil (GK.then ?_)
    refine GC.join (S := Unit) (fun _s => True) (fun _s => [(2, .bool over), (19, .slice (oA ob) bs.length oc), (22, .int .i64 (dr : Int)), (24, .pointer (some ⟨b24, 0, none⟩)), (25, .int .u16 idv), (26, .int .i64 fv), (27, .pointer (some ⟨g2, 0, none⟩)), (29, .slice (oA qa) as_.length ca), (30, .bool (grownB as_ bs)), (31, .slice (oA qa) b'.length ca)]) (fun _s => [(some g2, .cells (lgC (openL 0 s over E) (some ⟨q1, 0, none⟩) rb2 rc2) 85), (rb2, .cells ((openL 0 s over E).recs.flatMap recC ++ sp2) 90), (some q1, .cells (devC E q2 q3 (s * z).toNat s.toNat) 81), (some q2, .cells (vI .u8 E.bytes ++ []) 5), (some q3, .cells (vI .i64 E.wear ++ []) 3), (qa, .cells (as_.flatMap evC ++ sa) 40), (ob, .cells (bs.flatMap evC ++ ou) 40), (some b24, .cells (evC x) 40)]) (fun cont4 => ?_) ?_
    ·skip
     refine GC.seq (GC.region ?_)
     refine G.q Gd.no (Qt.mv rfl) rfl ?_
     refine G.nil (GK.then ?_)
     refine GC.condb rfl (fun c4 => ?_) (fun c4 => ?_)
     ·try simp only [sB0, sB1, sB2, sB3, sB4, sB5, sB6, sB7, sB8] at c4
      obtain ⟨has1, hid1⟩ : as_ = b' ++ [{ x with id := nextOf bs 1 }] ∧ (fv = 0 → idv = nextOf bs 1) := by
       rcases hgr with ⟨_, h, h2⟩ | ⟨h, _, _⟩
       ·exact ⟨h, h2⟩
       ·rw [c4] at h; cases h
      have hlen1 : as_.length = b'.length + 1 := by rw [has1]; simp
      have hla0 : 0 < as_.length := by omega
      have hlast : lastE as_ = { x with id := nextOf bs 1 } := by rw [has1]; exact lastE_snoc _ _
      obtain ⟨ba, rfl⟩ : ∃ ba, qa = some ba := by
       cases qa with
       | none => exact absurd (hqa.2 rfl).1 (by intro e; rw [e] at hla0; simp at hla0)
       | some ba => exact ⟨ba, rfl⟩
      have hla := lastE_get hla0
      have hlaI := idA.last hla0
      refine GC.seq (GC.region ?_)
      refine G.q Gd.no (Qt.mv rfl) rfl ?_
      refine G.q Gd.no (Qt.mv rfl) rfl ?_
      refine G.q Gd.no (Qt.lenS (rt := 0) Try.underlying29 rfl) rfl ?_
      refine G.q Gd.no (Qt.sub rfl rfl (by first | exact i64_id (by omega) (by omega) | exact rfl)) rfl ?_
      refine G.q Gd.no (Qt.iab0 Try.underlying29 z40 rfl rfl (by omega) (by omega) (show ((as_.length : Int) - 1).toNat = as_.length - 1 by omega)) rfl ?_
      refine G.q Gd.no (Qt.ldV a40 rfl z40 (vs := evC (lastE as_)) (Vw.el evC_len Rd.o hla)) rfl ?_
      refine G.ld Gd.no (Ld.alloc rfl ze40 (by first | exact Cl.one rfl | exact Cl.agg) (fun b32 => ?_))
      refine G.ld Gd.no (Ld.stW (by exact z40) rfl rfl (evC_one _) (E := 40) (by rfl) UpdC.u ?_)
      refine G.nil (GK.then (GC.seq (GC.region ?_)))
      refine G.q Gd.no (Qt.fa0 fl40_0 rfl) rfl ?_
      refine G.ld Gd.no (Ld.stc z36 rfl rfl rfl (Stc.o (cs' := evC x) (by rw [hlast, ← hx0]; exact SetAt.k0)) ?_)
      refine G.nil (GK.then (GC.seq (GC.seq (GC.region ?_))))
      refine G.q Gd.no (Qt.ldW a40 rfl Rd.o z40) rfl ?_
      refine G.q Gd.no (Qt.ldW a40 rfl Rd.o z40) rfl ?_
      refine G.q Gd.no (Qt.neA Try.underlying40 si40 eg40 rfl rfl (.cons (by decide) (.leaf a36 rfl rfl (.int Try.underlying36)) (.cons (by decide) (.leaf a37 rfl rfl (.int Try.underlying37)) (.cons (by decide) (.leaf a36 rfl rfl (.int Try.underlying36)) (.cons (by decide) (.leaf a5 rfl rfl (.int Try.underlying5)) (.cons (by decide) (.leaf a5 rfl rfl (.int Try.underlying5)) (.cons (by decide) (.leaf a5 rfl rfl (.int Try.underlying5)) (.cons (by decide) (.leaf a4 rfl rfl (.bool Try.underlying4)) (.cons (by decide) (.arr a38 z38 rfl rfl Try.underlying38 z5 a5 (.cons rfl rfl (.int Try.underlying5) (.cons rfl rfl (.int Try.underlying5) (.cons rfl rfl (.int Try.underlying5) .nil)))) .nil))))))))) rfl ?_
      rw [evEq_self]
      refine G.q Gd.no (Qt.mv rfl) rfl ?_
      apply G.orb (seg := [_, _, _, _, _, _, _, _, _, _, _, _, _])
      exact rfl
      exact rfl
      exact rfl
      exact Gd.no
      exact rfl
      exact rfl
      ·intro g4; try simp only [sB0, sB1, sB2, sB3, sB4, sB5, sB6, sB7, sB8] at g4
       refine G.q (Gd.yes rfl rfl) (Qt.mv rfl) rfl ?_
       refine G.q (Gd.yes rfl rfl) (Qt.eqI rfl rfl) rfl ?_
       refine G.q (Gd.yes rfl rfl) (Qt.mv rfl) rfl ?_
       apply G.andb (seg := [_, _, _, _, _, _, _, _, _])
       exact rfl
       exact rfl
       exact rfl
       exact (Gd.yes rfl rfl)
       exact rfl
       exact rfl
       ·intro g7; try simp only [sB0, sB1, sB2, sB3, sB4, sB5, sB6, sB7, sB8] at g7
        refine G.q (Gd.yes rfl rfl) (Qt.mv rfl) rfl ?_
        refine G.q (Gd.yes rfl rfl) (Qt.mv rfl) rfl ?_
        refine G.q (Gd.yes rfl rfl) (Qt.lenS (rt := 0) Try.underlying29 rfl) rfl ?_
        refine G.q (Gd.yes rfl rfl) (Qt.sub rfl rfl (by first | exact i64_id (by omega) (by omega) | exact rfl)) rfl ?_
        refine G.q (Gd.yes rfl rfl) (Qt.iab0 Try.underlying29 z40 rfl rfl (by omega) (by omega) (show ((as_.length : Int) - 1).toNat = as_.length - 1 by omega)) rfl ?_
        refine G.q (Gd.yes rfl rfl) (Qt.fa fl40_0 rfl) rfl ?_
        refine G.q (Gd.yes rfl rfl) (Qt.ldc a36 rfl (Rdc.o (evs_id hla))) rfl ?_
        refine G.q (Gd.yes rfl rfl) (Qt.mv rfl) rfl ?_
        refine G.q (Gd.yes rfl rfl) (Qt.neI rfl rfl) rfl ?_
        refine G.nil (GK.seg (n := [_, _, _, _, _, _, _, _, _]) rfl rfl rfl (by first | exact Tks.all _ | exact Tks.skip (Tks.all _) | exact Tks.skip (Tks.skip (Tks.all _)) | exact Tks.skip (Tks.skip (Tks.skip (Tks.all _)))))
       refine G.nil (GK.seg (n := [_, _, _, _]) rfl rfl rfl (by first | exact Tks.all _ | exact Tks.skip (Tks.all _) | exact Tks.skip (Tks.skip (Tks.all _)) | exact Tks.skip (Tks.skip (Tks.skip (Tks.all _)))))
      refine G.nil (GK.then ?_)
      refine GC.condb rfl (fun c5 => ?_) (fun c5 => ?_)
      ·try simp only [sB0, sB1, sB2, sB3, sB4, sB5, sB6, sB7, sB8] at c5
       (have h5 : fv = 0 ∧ ¬ (lastE as_).id = idv := by simpa using c5)
       exact absurd (by rw [hlast]; exact (hid1 h5.1).symm) h5.2
      ·try simp only [sB0, sB1, sB2, sB3, sB4, sB5, sB6, sB7, sB8] at c5
       refine GC.skip (GK.then (GC.region ?_))
       refine G.q Gd.no (Qt.mv rfl) rfl ?_
       refine G.q Gd.no (Qt.mv rfl) rfl ?_
       refine G.q Gd.no (Qt.lenS (rt := 0) Try.underlying29 rfl) rfl ?_
       refine G.q Gd.no (Qt.sub rfl rfl (by first | exact i64_id (by omega) (by omega) | exact rfl)) rfl ?_
       refine G.q Gd.no (Qt.slH Try.underlying29 z40 rfl rfl (by omega) (by omega) rfl) rfl ?_
       rw [show ((as_.length : Int) - 1).toNat = b'.length by omega]
       refine G.q Gd.no (Qt.asg rfl) rfl ?_
       refine G.nil ?_
       refine GK.meet cont4 () trivial ⟨rfl, rfl, rfl, rfl, rfl, rfl, rfl, rfl, rfl, rfl, trivial⟩ ⟨_, (Tks.c (Tks.c (Tks.c (Tks.c (Tks.c (Tks.c (Tks.c (Tks.c (.nil _)))))))))⟩
     ·try simp only [sB0, sB1, sB2, sB3, sB4, sB5, sB6, sB7, sB8] at c4
      have hgn : as_ = b' := by
       rcases hgr with ⟨h, _, _⟩ | ⟨_, h, _⟩
       ·rw [c4] at h; cases h
       ·exact h
      refine GC.skip ?_
      refine GK.meet cont4 () trivial ⟨rfl, rfl, rfl, rfl, rfl, rfl, rfl, rfl, rfl, (by subst hgn; rfl), trivial⟩ ⟨_, (Tks.c (Tks.c (Tks.c (Tks.c (Tks.c (Tks.c (Tks.c (Tks.c (.nil _)))))))))⟩
    ·intro _s _hs
     obtain ⟨tl, htl⟩ : ∃ tl, as_ = b' ++ tl := by
      rcases hgr with ⟨_, h, _⟩ | ⟨_, h, _⟩
      ·exact ⟨_, h⟩
      ·exact ⟨[], by rw [h]; simp⟩
     have hbl2 : b'.length ≤ 16777216 := by have := congrArg List.length htl; rw [List.length_append] at this; omega
     refine GC.seq (GC.seq (GC.region ?_))
     refine G.q Gd.no (Qt.mv rfl) rfl ?_
     refine G.q Gd.no (Qt.eqI rfl rfl) rfl ?_
     refine G.q Gd.no (Qt.mv rfl) rfl ?_
     apply G.andb (seg := [_, _])
     exact rfl
     exact rfl
     exact rfl
     exact Gd.no
     exact rfl
     exact rfl
     ·intro g3; try simp only [sB0, sB1, sB2, sB3, sB4, sB5, sB6, sB7, sB8] at g3
      refine G.q (Gd.yes rfl rfl) (Qt.mv rfl) rfl ?_
      refine G.q (Gd.yes rfl rfl) (Qt.not rfl) rfl ?_
      refine G.nil (GK.seg (n := [_, _]) rfl rfl rfl (by first | exact Tks.all _ | exact Tks.skip (Tks.all _) | exact Tks.skip (Tks.skip (Tks.all _)) | exact Tks.skip (Tks.skip (Tks.skip (Tks.all _)))))
     refine G.q Gd.no (Qt.mv rfl) rfl ?_
     apply G.orb (seg := [_, _, _, _, _, _])
     exact rfl
     exact rfl
     exact rfl
     exact Gd.no
     exact rfl
     exact rfl
     ·intro g7; try simp only [sB0, sB1, sB2, sB3, sB4, sB5, sB6, sB7, sB8] at g7
      refine G.q (Gd.yes rfl rfl) (Qt.mv rfl) rfl ?_
      refine G.q (Gd.yes rfl rfl) (Qt.neI rfl rfl) rfl ?_
      refine G.q (Gd.yes rfl rfl) (Qt.mv rfl) rfl ?_
      apply G.andb (seg := [_, _])
      exact rfl
      exact rfl
      exact rfl
      exact (Gd.yes rfl rfl)
      exact rfl
      exact rfl
      ·intro g10; try simp only [sB0, sB1, sB2, sB3, sB4, sB5, sB6, sB7, sB8] at g10
       refine G.q (Gd.yes rfl rfl) (Qt.mv rfl) rfl ?_
       refine G.q (Gd.yes rfl rfl) (Qt.neI rfl rfl) rfl ?_
       refine G.nil (GK.seg (n := [_, _]) rfl rfl rfl (by first | exact Tks.all _ | exact Tks.skip (Tks.all _) | exact Tks.skip (Tks.skip (Tks.all _)) | exact Tks.skip (Tks.skip (Tks.skip (Tks.all _)))))
      refine G.nil (GK.seg (n := [_, _, _, _]) rfl rfl rfl (by first | exact Tks.all _ | exact Tks.skip (Tks.all _) | exact Tks.skip (Tks.skip (Tks.all _)) | exact Tks.skip (Tks.skip (Tks.skip (Tks.all _)))))
     refine G.nil (GK.then ?_)
     refine GC.condb rfl (fun c6 => ?_) (fun c6 => ?_)
     ·try simp only [sB0, sB1, sB2, sB3, sB4, sB5, sB6, sB7, sB8] at c6
      rcases c6 with ⟨h1, h2⟩ | ⟨h1, h2⟩
      ·rcases hgr with ⟨h3, _⟩ | ⟨_, _, h3⟩
       ·rw [h3] at h2; cases h2
       ·omega
      ·omega
     ·try simp only [sB0, sB1, sB2, sB3, sB4, sB5, sB6, sB7, sB8] at c6
      refine GC.skip (GK.then (GC.seq (GC.region ?_)))
      refine G.q Gd.no (Qt.mv rfl) rfl ?_
      refine G.q Gd.no (Qt.mv rfl) rfl ?_
      refine G.ld Gd.no (Ld.call cal20 rfl rfl (.nil _) (fun F' hF => endOf_ct F' (oA qa) (oA ob) ca oc b' bs 0 (VwF.preO htl (fun b hb => by subst hb; exact hF.own In.o) (fun e => (hqa.2 e).1)) (VwF.preO (tl := []) (by simp) (fun b hb => by subst hb; exact hF.own In.o) (fun e => (ho.2 e).1)) (by omega) (by omega) (by omega) (by omega)) (fun _ _ => ?_))
      dsimp only [lCa, lNa]
      rw [List.drop_zero]
      refine G.q Gd.no (Qt.mv rfl) rfl ?_
      apply G.orb (seg := [_, _, _, _, _, _, _, _, _, _, _, _, _])
      exact rfl
      exact rfl
      exact rfl
      exact Gd.no
      exact rfl
      exact rfl
      ·intro g4; try simp only [sB0, sB1, sB2, sB3, sB4, sB5, sB6, sB7, sB8] at g4
       refine G.q (Gd.yes rfl rfl) (Qt.mv rfl) rfl ?_
       refine G.q (Gd.yes rfl rfl) (Qt.mv rfl) rfl ?_
       apply G.andb (seg := [_, _, _, _])
       exact rfl
       exact rfl
       exact rfl
       exact (Gd.yes rfl rfl)
       exact rfl
       exact rfl
       ·intro g6; try simp only [sB0, sB1, sB2, sB3, sB4, sB5, sB6, sB7, sB8] at g6
        refine G.q (Gd.yes rfl rfl) (Qt.mv rfl) rfl ?_
        refine G.q (Gd.yes rfl rfl) (Qt.lenS (rt := 0) Try.underlying29 rfl) rfl ?_
        refine G.q (Gd.yes rfl rfl) (Qt.mv rfl) rfl ?_
        refine G.q (Gd.yes rfl rfl) (Qt.geq rfl rfl) rfl ?_
        refine G.nil (GK.seg (n := [_, _, _, _]) rfl rfl rfl (by first | exact Tks.all _ | exact Tks.skip (Tks.all _) | exact Tks.skip (Tks.skip (Tks.all _)) | exact Tks.skip (Tks.skip (Tks.skip (Tks.all _)))))
       refine G.q (Gd.yes rfl rfl) (Qt.mv rfl) rfl ?_
       apply G.andb (seg := [_, _, _, _])
       exact rfl
       exact rfl
       exact rfl
       exact (Gd.yes rfl rfl)
       exact rfl
       exact rfl
       ·intro g12; try simp only [sB0, sB1, sB2, sB3, sB4, sB5, sB6, sB7, sB8] at g12
        refine G.q (Gd.yes rfl rfl) (Qt.mv rfl) rfl ?_
        refine G.q (Gd.yes rfl rfl) (Qt.mv rfl) rfl ?_
        refine G.q (Gd.yes rfl rfl) (Qt.mv rfl) rfl ?_
        refine G.ld (Gd.yes rfl rfl) (Ld.call cal20 rfl rfl (.nil _) (fun F' hF => endOf_ct F' (oA qa) (oA ob) ca oc b' bs dr (VwF.preO htl (fun b hb => by subst hb; exact hF.own In.o) (fun e => (hqa.2 e).1)) (VwF.preO (tl := []) (by simp) (fun b hb => by subst hb; exact hF.own In.o) (fun e => (ho.2 e).1)) (by omega) (by omega) (by omega) (by omega)) (fun _ _ => ?_))
        dsimp only [lCa, lNa]
        refine G.nil (GK.seg (n := [_, _, _, _]) rfl rfl rfl (by first | exact Tks.all _ | exact Tks.skip (Tks.all _) | exact Tks.skip (Tks.skip (Tks.all _)) | exact Tks.skip (Tks.skip (Tks.skip (Tks.all _)))))
       refine G.nil (GK.seg (n := [_, _, _, _, _]) rfl rfl rfl (by first | exact Tks.all _ | exact Tks.skip (Tks.all _) | exact Tks.skip (Tks.skip (Tks.all _)) | exact Tks.skip (Tks.skip (Tks.skip (Tks.all _)))))
      refine G.q Gd.no (Qt.asg rfl) rfl ?_
      refine G.nil (GK.then (GC.seq (GC.region ?_)))
      refine G.q Gd.no (Qt.mv rfl) rfl ?_
      refine G.q Gd.no (Qt.ldW a40 rfl Rd.o z40) rfl ?_
      refine G.ld Gd.no (Ld.call cal15 rfl rfl (Tks.c (Tks.c (Tks.c (Tks.c (Tks.c (.nil _)))))) (fun F' hF => addS_ct F' g2 q1 q2 q3 _ _ [] [] rb2 rc2 sp2 (openL 0 s over E) E fE hcbE i1 i2 i3 (fun _ => ag3.yf) (by unfold dOf; rw [ag3.ye]; rfl) x hwf.1) (fun ⟨rb3, rc3, sp3⟩ _ => ?_))
      dsimp only [lCa, lNa]
      rw [he3, hr3]
      dsimp only
      refine G.q Gd.no (Qt.mv rfl) rfl ?_
      refine G.q Gd.no (Qt.ext rfl rfl) rfl ?_
      refine G.q Gd.no (Qt.ext rfl rfl) rfl ?_
      refine G.q Gd.no (Qt.asg rfl) rfl ?_
      refine G.q Gd.no (Qt.asg rfl) rfl ?_
      refine G.nil (GK.then (GC.seq (GC.region ?_)))
      refine G.q Gd.no (Qt.asg rfl) rfl ?_
      refine G.nil (GK.then ?_)
      refine GC.join (S := Unit) (fun _s => True) (fun _s => [(2, .bool over), (33, .bool true), (34, .int .u16 nx), (35, .int .i64 kk), (36, .int .u16 (wantOf as_ bs))]) (fun _s => []) (fun cont7 => ?_) ?_
      ·skip
       refine GC.seq (GC.region ?_)
       refine G.q Gd.no (Qt.mv rfl) rfl ?_
       refine G.q Gd.no (Qt.lenS (rt := 0) Try.underlying29 rfl) rfl ?_
       refine G.q Gd.no (Qt.gtr rfl rfl) rfl ?_
       refine G.nil (GK.then ?_)
       refine GC.condb rfl (fun c7 => ?_) (fun c7 => ?_)
       ·try simp only [sB0, sB1, sB2, sB3, sB4, sB5, sB6, sB7, sB8] at c7
        have hla0 : 0 < as_.length := by omega
        obtain ⟨ba, rfl⟩ : ∃ ba, qa = some ba := by
         cases qa with
         | none => exact absurd (hqa.2 rfl).1 (by intro e; rw [e] at hla0; simp at hla0)
         | some ba => exact ⟨ba, rfl⟩
        have hla := lastE_get hla0
        have hlaI := idA.last hla0
        refine GC.region ?_
        refine G.q Gd.no (Qt.mv rfl) rfl ?_
        refine G.q Gd.no (Qt.mv rfl) rfl ?_
        refine G.q Gd.no (Qt.lenS (rt := 0) Try.underlying29 rfl) rfl ?_
        refine G.q Gd.no (Qt.sub rfl rfl (by first | exact i64_id (by omega) (by omega) | exact rfl)) rfl ?_
        refine G.q Gd.no (Qt.iab0 Try.underlying29 z40 rfl rfl (by omega) (by omega) (show ((as_.length : Int) - 1).toNat = as_.length - 1 by omega)) rfl ?_
        refine G.q Gd.no (Qt.fa fl40_0 rfl) rfl ?_
        refine G.q Gd.no (Qt.ldc a36 rfl (Rdc.o (evs_id hla))) rfl ?_
        refine G.q Gd.no (Qt.rem rfl rfl (by omega) (by first | exact rem_nn (by omega) | exact rfl)) rfl ?_
        refine G.q Gd.no (Qt.add rfl rfl (by first | exact u16_id (by omega) (by omega) | exact rfl)) rfl ?_
        refine G.q Gd.no (Qt.asg rfl) rfl ?_
        refine G.nil ?_
        refine GK.meet cont7 () trivial ⟨rfl, (congrArg (fun b => some (Value.bool b)) (by rcases hkp with h | ⟨h1, h2, h3⟩; (simp [h]); (simp [h1, h2, h3]))), rfl, rfl, (congrArg (fun t => some (Value.int .u16 t)) (by unfold wantOf; rw [if_pos (by omega)])), trivial⟩ ⟨_, (.nil _)⟩
       ·try simp only [sB0, sB1, sB2, sB3, sB4, sB5, sB6, sB7, sB8] at c7
        refine GC.seq (GC.region ?_)
        refine G.q Gd.no (Qt.mv rfl) rfl ?_
        refine G.q Gd.no (Qt.lenS (rt := 0) Try.underlying29 rfl) rfl ?_
        refine G.q Gd.no (Qt.gtr rfl rfl) rfl ?_
        refine G.nil (GK.then ?_)
        refine GC.condb rfl (fun c8 => ?_) (fun c8 => ?_)
        ·try simp only [sB0, sB1, sB2, sB3, sB4, sB5, sB6, sB7, sB8] at c8
         have hlb0 : 0 < bs.length := by omega
         obtain ⟨bb, rfl⟩ : ∃ bb, ob = some bb := by
          cases ob with
          | none => exact absurd (ho.2 rfl).1 (by intro e; rw [e] at hlb0; simp at hlb0)
          | some bb => exact ⟨bb, rfl⟩
         have hlb := lastE_get hlb0
         have hlbI := idB.last hlb0
         refine GC.region ?_
         refine G.q Gd.no (Qt.mv rfl) rfl ?_
         refine G.q Gd.no (Qt.mv rfl) rfl ?_
         refine G.q Gd.no (Qt.lenS (rt := 0) Try.underlying29 rfl) rfl ?_
         refine G.q Gd.no (Qt.sub rfl rfl (by first | exact i64_id (by omega) (by omega) | exact rfl)) rfl ?_
         refine G.q Gd.no (Qt.iab0 Try.underlying29 z40 rfl rfl (by omega) (by omega) (show ((bs.length : Int) - 1).toNat = bs.length - 1 by omega)) rfl ?_
         refine G.q Gd.no (Qt.fa fl40_0 rfl) rfl ?_
         refine G.q Gd.no (Qt.ldc a36 rfl (Rdc.o (evs_id hlb))) rfl ?_
         refine G.q Gd.no (Qt.rem rfl rfl (by omega) (by first | exact rem_nn (by omega) | exact rfl)) rfl ?_
         refine G.q Gd.no (Qt.add rfl rfl (by first | exact u16_id (by omega) (by omega) | exact rfl)) rfl ?_
         refine G.q Gd.no (Qt.asg rfl) rfl ?_
         refine G.nil ?_
         refine GK.meet cont7 () trivial ⟨rfl, (congrArg (fun b => some (Value.bool b)) (by rcases hkp with h | ⟨h1, h2, h3⟩; (simp [h]); (simp [h1, h2, h3]))), rfl, rfl, (congrArg (fun t => some (Value.int .u16 t)) (by unfold wantOf; rw [if_neg (by omega), if_pos (by omega)])), trivial⟩ ⟨_, (.nil _)⟩
        ·try simp only [sB0, sB1, sB2, sB3, sB4, sB5, sB6, sB7, sB8] at c8
         refine GC.skip ?_
         refine GK.meet cont7 () trivial ⟨rfl, (congrArg (fun b => some (Value.bool b)) (by rcases hkp with h | ⟨h1, h2, h3⟩; (simp [h]); (simp [h1, h2, h3]))), rfl, rfl, (congrArg (fun t => some (Value.int .u16 t)) (by unfold wantOf; rw [if_neg (by omega), if_neg (by omega)])), trivial⟩ ⟨_, (.nil _)⟩
      ·intro _s _hs
       refine GC.seq (GC.region ?_)
       refine G.q Gd.no (Qt.mv rfl) rfl ?_
       refine G.q Gd.no (Qt.mv rfl) rfl ?_
       apply G.andb (seg := [_, _, _, _, _, _, _, _, _, _, _, _, _, _, _])
       exact rfl
       exact rfl
       exact rfl
       exact Gd.no
       exact rfl
       exact rfl
       ·intro g2; try simp only [sB0, sB1, sB2, sB3, sB4, sB5, sB6, sB7, sB8] at g2
        refine G.q (Gd.yes rfl rfl) (Qt.mv rfl) rfl ?_
        refine G.q (Gd.yes rfl rfl) (Qt.eqI rfl rfl) rfl ?_
        refine G.q (Gd.yes rfl rfl) (Qt.mv rfl) rfl ?_
        apply G.andb (seg := [_, _, _])
        exact rfl
        exact rfl
        exact rfl
        exact (Gd.yes rfl rfl)
        exact rfl
        exact rfl
        ·intro g5; try simp only [sB0, sB1, sB2, sB3, sB4, sB5, sB6, sB7, sB8] at g5
         refine G.q (Gd.yes rfl rfl) (Qt.mv rfl) rfl ?_
         refine G.q (Gd.yes rfl rfl) (Qt.mv rfl) rfl ?_
         refine G.q (Gd.yes rfl rfl) (Qt.eqI rfl rfl) rfl ?_
         refine G.nil (GK.seg (n := [_, _, _]) rfl rfl rfl (by first | exact Tks.all _ | exact Tks.skip (Tks.all _) | exact Tks.skip (Tks.skip (Tks.all _)) | exact Tks.skip (Tks.skip (Tks.skip (Tks.all _)))))
        refine G.q (Gd.yes rfl rfl) (Qt.mv rfl) rfl ?_
        apply G.orb (seg := [_, _, _, _, _, _])
        exact rfl
        exact rfl
        exact rfl
        exact (Gd.yes rfl rfl)
        exact rfl
        exact rfl
        ·intro g10; try simp only [sB0, sB1, sB2, sB3, sB4, sB5, sB6, sB7, sB8] at g10
         refine G.q (Gd.yes rfl rfl) (Qt.mv rfl) rfl ?_
         refine G.q (Gd.yes rfl rfl) (Qt.eqI rfl rfl) rfl ?_
         refine G.q (Gd.yes rfl rfl) (Qt.mv rfl) rfl ?_
         apply G.andb (seg := [_, _])
         exact rfl
         exact rfl
         exact rfl
         exact (Gd.yes rfl rfl)
         exact rfl
         exact rfl
         ·intro g13; try simp only [sB0, sB1, sB2, sB3, sB4, sB5, sB6, sB7, sB8] at g13
          refine G.q (Gd.yes rfl rfl) (Qt.mv rfl) rfl ?_
          refine G.q (Gd.yes rfl rfl) (Qt.not rfl) rfl ?_
          refine G.nil (GK.seg (n := [_, _]) rfl rfl rfl (by first | exact Tks.all _ | exact Tks.skip (Tks.all _) | exact Tks.skip (Tks.skip (Tks.all _)) | exact Tks.skip (Tks.skip (Tks.skip (Tks.all _)))))
         refine G.nil (GK.seg (n := [_, _, _, _]) rfl rfl rfl (by first | exact Tks.all _ | exact Tks.skip (Tks.all _) | exact Tks.skip (Tks.skip (Tks.all _)) | exact Tks.skip (Tks.skip (Tks.skip (Tks.all _)))))
        refine G.nil (GK.seg (n := [_, _, _, _, _, _]) rfl rfl rfl (by first | exact Tks.all _ | exact Tks.skip (Tks.all _) | exact Tks.skip (Tks.skip (Tks.all _)) | exact Tks.skip (Tks.skip (Tks.skip (Tks.all _)))))
       refine G.q Gd.no (Qt.mv rfl) rfl ?_
       apply G.andb (seg := [_])
       exact rfl
       exact rfl
       exact rfl
       exact Gd.no
       exact rfl
       exact rfl
       ·intro g19; try simp only [sB0, sB1, sB2, sB3, sB4, sB5, sB6, sB7, sB8] at g19
        refine G.ld (Gd.yes rfl rfl) (Ld.call cal7 rfl rfl (.nil _) (fun F' hF => awake_ct F') (fun _ _ => ?_))
        dsimp only [lCa, lNa]
        refine G.nil (GK.seg (n := [_]) rfl rfl rfl (by first | exact Tks.all _ | exact Tks.skip (Tks.all _) | exact Tks.skip (Tks.skip (Tks.all _)) | exact Tks.skip (Tks.skip (Tks.skip (Tks.all _)))))
       refine G.q Gd.no (Qt.asg rfl) rfl ?_
       refine G.nil (GK.then (GC.ret ?_))
       refine GK.ret (rs := [.tmp 14]) rfl (.tmp rfl .nil) () ?_ ?_ (.nil _)
       ·trivial
       ·(rcases hsec with ⟨h1, h2⟩ | ⟨h1, h2⟩ <;> (dsimp only at h1 h2; subst h1; subst h2; simp [tup]))
end Go.Proofs.Ytbeiciinppmekaa
