/-
  eventlog's Log: Clear and Add in every state, Capacity; each contract's conditions are its premises.
-/
import Derived.Test.YtbeiciinppmekaaTb
import Derived.Test.YtbeiciinppmekaaLogf
import Derived.Test.YtbeiciinppmekaaProg
namespace Go.Proofs.Ytbeiciinppmekaa
open Go Go.Sx Go.Proofs
set_option maxRecDepth 100000
set_option linter.unusedSimpArgs false
set_option linter.unusedVariables false
def Lg.clearUp (Y : Lg) (D : Dev) (r : Int) : Lg × Dev × Int :=
  if Y.held = false ∨ ¬ r = Y.num then (Y, D, 11) else
  if 0 < Y.recs.length then
    if (Y.openT D (Y.newest + 1)).2.2 = 0 then ({ (Y.openT D (Y.newest + 1)).1 with held := false, full := false }, (Y.openT D (Y.newest + 1)).2.1, 0)
    else ((Y.openT D (Y.newest + 1)).1.fell (Y.openT D (Y.newest + 1)).2.1, (Y.openT D (Y.newest + 1)).2.1, (Y.openT D (Y.newest + 1)).2.2)
  else ({ Y with held := false, full := false }, D, 0)
def Lg.clear (Y : Lg) (D : Dev) (r : Int) : Lg × Dev × Int := if Y.ended || D.down then (Lg.gone, D, 10) else Y.clearUp D r
def Lg.add (Y : Lg) (D : Dev) (e : Ev) : Lg × Dev × Int × Int := if Y.ended || D.down then (Lg.gone, D, 0, 10) else Y.addUp D e
theorem addDown_ct (F : Fr) (b db bb bw cb cw : Nat) (sb sw : List Value) (rb : Option Nat) (rc : Nat) (sp : List Value) (Y : Lg) (D : Dev) (fine : D.Fine) (hcb : D.n ≤ cb) (hinv : Y.recs.length * 11 + sp.length = rc * 11) (hnil : rb = none → Y.recs = [] ∧ sp = []) (hlen : Y.recs.length ≤ 16777216) (he : Y.ended = false) (hdn : D.down = true) (e : Ev) :
    Ct Try.prog F 15 [.pointer (some ⟨b, 0, none⟩), .agg (evC e).toArray] [(some b, .cells (lgC Y (some ⟨db, 0, none⟩) rb rc) 85), (rb, .cells (Y.recs.flatMap recC ++ sp) 90), (some db, .cells (devC D bb bw cb cw) 81), (some bb, .cells (vI .u8 D.bytes ++ sb) 5), (some bw, .cells (vI .i64 D.wear ++ sw) 3)] (S := Option Nat × Nat × List Value) (fun x => (Y.add D e).1.recs.length * 11 + x.2.2.length = x.2.1 * 11 ∧ (x.1 = none → (Y.add D e).1.recs = [] ∧ x.2.2 = [])) (fun _ => .tuple #[.int .u16 (Y.add D e).2.2.1, .int .i64 (Y.add D e).2.2.2]) (fun x => [(some b, .cells (lgC (Y.add D e).1 (dOf (Y.add D e).1 db) x.1 x.2.1) 85), (x.1, .cells ((Y.add D e).1.recs.flatMap recC ++ x.2.2) 90), (some db, .cells (devC (Y.add D e).2.1 bb bw cb cw) 81), (some bb, .cells (vI .u8 (Y.add D e).2.1.bytes ++ sb) 5), (some bw, .cells (vI .i64 (Y.add D e).2.1.wear ++ sw) 3)]) := by
 refine Ct.of 128 [(0, _), (1, _)] Try.func15 rfl rfl rfl rfl ?_
 obtain ⟨RR, hRR⟩ : ∃ RR, Y.add D e = RR := ⟨_, rfl⟩
 rw [hRR]
 refine GC.seq (GC.region ?_)
 refine G.ld Gd.no (Ld.box rfl rfl (by first | exact Cl.one rfl | exact Cl.agg) (fun b3 => ?_))
 refine G.q Gd.no (Qt.asg rfl) rfl ?_
 refine G.q Gd.no (Qt.asg rfl) rfl ?_
 refine G.nil (GK.then (GC.seq (GC.seq (GC.region ?_))))
 refine G.q Gd.no (Qt.mv rfl) rfl ?_
 refine G.ld Gd.no (Ld.call cal42 rfl rfl (Tks.c (.nil _)) (fun F' hF => gdown1_ct F' b db bb bw cb cw rb rc Y D (hF.own In.o) he hdn) (fun _ _ => ?_))
 dsimp only [lCa, lNa]
 refine G.nil (GK.then ?_)
 refine GC.condt rfl ?_
 refine GC.seq (GC.region ?_)
 refine G.q Gd.no (Qt.asg rfl) rfl ?_
 refine G.q Gd.no (Qt.asg rfl) rfl ?_
 refine G.nil (GK.then (GC.ret (GK.thenr ?_)))
 rw [show RR = (Lg.gone, D, 0, 10) from by rw [← hRR]; exact if_pos (by simp [*])]
 refine GK.addNil (.cells (([] : List (Int × Ev)).flatMap recC ++ []) 90) ?_
 refine GK.ret (rs := [.tmp 4, .tmp 5]) rfl (.tmp rfl (.tmp rfl .nil)) (none, 0, []) ?_ ?_ (Tks.c (Tks.c (Tks.c (Tks.c (Tks.c (.nil _))))))
 ·exact ⟨rfl, fun _ => ⟨rfl, rfl⟩⟩
 ·rfl
theorem addEnd_ct (F : Fr) (b db bb bw cb cw : Nat) (sb sw : List Value) (rb : Option Nat) (rc : Nat) (sp : List Value) (Y : Lg) (D : Dev) (fine : D.Fine) (hcb : D.n ≤ cb) (hinv : Y.recs.length * 11 + sp.length = rc * 11) (hnil : rb = none → Y.recs = [] ∧ sp = []) (hlen : Y.recs.length ≤ 16777216) (he : Y.ended = true) (e : Ev) :
    Ct Try.prog F 15 [.pointer (some ⟨b, 0, none⟩), .agg (evC e).toArray] [(some b, .cells (lgC Y none rb rc) 85), (rb, .cells (Y.recs.flatMap recC ++ sp) 90), (some db, .cells (devC D bb bw cb cw) 81), (some bb, .cells (vI .u8 D.bytes ++ sb) 5), (some bw, .cells (vI .i64 D.wear ++ sw) 3)] (S := Option Nat × Nat × List Value) (fun x => (Y.add D e).1.recs.length * 11 + x.2.2.length = x.2.1 * 11 ∧ (x.1 = none → (Y.add D e).1.recs = [] ∧ x.2.2 = [])) (fun _ => .tuple #[.int .u16 (Y.add D e).2.2.1, .int .i64 (Y.add D e).2.2.2]) (fun x => [(some b, .cells (lgC (Y.add D e).1 (dOf (Y.add D e).1 db) x.1 x.2.1) 85), (x.1, .cells ((Y.add D e).1.recs.flatMap recC ++ x.2.2) 90), (some db, .cells (devC (Y.add D e).2.1 bb bw cb cw) 81), (some bb, .cells (vI .u8 (Y.add D e).2.1.bytes ++ sb) 5), (some bw, .cells (vI .i64 (Y.add D e).2.1.wear ++ sw) 3)]) := by
 refine Ct.of 128 [(0, _), (1, _)] Try.func15 rfl rfl rfl rfl ?_
 obtain ⟨RR, hRR⟩ : ∃ RR, Y.add D e = RR := ⟨_, rfl⟩
 rw [hRR]
 refine GC.seq (GC.region ?_)
 refine G.ld Gd.no (Ld.box rfl rfl (by first | exact Cl.one rfl | exact Cl.agg) (fun b3 => ?_))
 refine G.q Gd.no (Qt.asg rfl) rfl ?_
 refine G.q Gd.no (Qt.asg rfl) rfl ?_
 refine G.nil (GK.then (GC.seq (GC.seq (GC.region ?_))))
 refine G.q Gd.no (Qt.mv rfl) rfl ?_
 refine G.ld Gd.no (Ld.call cal42 rfl rfl (Tks.c (.nil _)) (fun F' hF => gdown2_ct F' b none rb rc Y he) (fun _ _ => ?_))
 dsimp only [lCa, lNa]
 refine G.nil (GK.then ?_)
 refine GC.condt rfl ?_
 refine GC.seq (GC.region ?_)
 refine G.q Gd.no (Qt.asg rfl) rfl ?_
 refine G.q Gd.no (Qt.asg rfl) rfl ?_
 refine G.nil (GK.then (GC.ret (GK.thenr ?_)))
 rw [show RR = (Lg.gone, D, 0, 10) from by rw [← hRR]; exact if_pos (by simp [*])]
 refine GK.addNil (.cells (([] : List (Int × Ev)).flatMap recC ++ []) 90) ?_
 refine GK.ret (rs := [.tmp 4, .tmp 5]) rfl (.tmp rfl (.tmp rfl .nil)) (none, 0, []) ?_ ?_ (Tks.c (Tks.c (Tks.c (Tks.c (Tks.c (.nil _))))))
 ·exact ⟨rfl, fun _ => ⟨rfl, rfl⟩⟩
 ·rfl
theorem add_ct (F : Fr) (b db bb bw cb cw : Nat) (sb sw : List Value) (rb : Option Nat) (rc : Nat) (sp : List Value) (Y : Lg) (D : Dev) (fine : D.Fine) (hcb : D.n ≤ cb) (hinv : Y.recs.length * 11 + sp.length = rc * 11) (hnil : rb = none → Y.recs = [] ∧ sp = []) (hlen : Y.recs.length ≤ 16777216) (gf : Y.ended = false → Y.Fine D) (e : Ev) (wf : e.Wf) :
    Ct Try.prog F 15 [.pointer (some ⟨b, 0, none⟩), .agg (evC e).toArray] [(some b, .cells (lgC Y (dOf Y db) rb rc) 85), (rb, .cells (Y.recs.flatMap recC ++ sp) 90), (some db, .cells (devC D bb bw cb cw) 81), (some bb, .cells (vI .u8 D.bytes ++ sb) 5), (some bw, .cells (vI .i64 D.wear ++ sw) 3)] (S := Option Nat × Nat × List Value) (fun x => (Y.add D e).1.recs.length * 11 + x.2.2.length = x.2.1 * 11 ∧ (x.1 = none → (Y.add D e).1.recs = [] ∧ x.2.2 = [])) (fun _ => .tuple #[.int .u16 (Y.add D e).2.2.1, .int .i64 (Y.add D e).2.2.2]) (fun x => [(some b, .cells (lgC (Y.add D e).1 (dOf (Y.add D e).1 db) x.1 x.2.1) 85), (x.1, .cells ((Y.add D e).1.recs.flatMap recC ++ x.2.2) 90), (some db, .cells (devC (Y.add D e).2.1 bb bw cb cw) 81), (some bb, .cells (vI .u8 (Y.add D e).2.1.bytes ++ sb) 5), (some bw, .cells (vI .i64 (Y.add D e).2.1.wear ++ sw) 3)]) := by
  cases he : Y.ended with
  | true =>
    have h := addEnd_ct F b db bb bw cb cw sb sw rb rc sp Y D fine hcb hinv hnil hlen he e
    simp only [dOf, he, if_true] at h ⊢
    exact h
  | false =>
    cases hd : D.down with
    | true =>
      have h := addDown_ct F b db bb bw cb cw sb sw rb rc sp Y D fine hcb hinv hnil hlen he hd e
      simp only [dOf, he, Bool.false_eq_true, if_false] at h ⊢
      exact h
    | false =>
      have h := addUp_ct F b db bb bw cb cw sb sw rb rc sp Y D fine hcb hd he hinv hnil hlen (gf he) e wf
      rw [show Y.add D e = Y.addUp D e from by unfold Lg.add; rw [he, hd]; rfl]
      simp only [show dOf Y db = some ⟨db, 0, none⟩ from by simp [dOf, he]]
      exact h
theorem capacity_ct (F : Fr) (s n : Int) (h0 : 2 ≤ s) (h1 : s ≤ 16) (h2 : 64 ≤ n) (h3 : n ≤ 1024) :
    Ct Try.prog F 11 [.int .i64 s, .int .i64 n] [] (S := Unit) (fun _ => True) (fun _ => .tuple #[.int .i64 ((s - 1) * ((n - 11) / 17)), .int .i64 ((n - 11) / 17), .int .i64 0]) (fun _ => []) := by
 have h4 : 0 ≤ (s - 1) * ((n - 11) / 17) := Int.mul_nonneg (by omega) (by omega)
 have h5 : (s - 1) * ((n - 11) / 17) ≤ 15 * ((n - 11) / 17) := Int.mul_le_mul_of_nonneg_right (by omega) (by omega)
 refine Ct.of 28 [(0, _), (1, _)] Try.func11 rfl rfl rfl rfl ?_
 refine GC.seq (GC.region ?_)
 refine G.q Gd.no (Qt.asg rfl) rfl ?_
 refine G.q Gd.no (Qt.asg rfl) rfl ?_
 refine G.q Gd.no (Qt.asg rfl) rfl ?_
 refine G.nil (GK.then (GC.seq (GC.seq (GC.region ?_))))
 refine G.q Gd.no (Qt.mv rfl) rfl ?_
 refine G.q Gd.no (Qt.lss rfl rfl) rfl ?_
 refine G.q Gd.no (Qt.mv rfl) rfl ?_
 apply G.orb (seg := [_, _])
 exact rfl
 exact rfl
 exact rfl
 exact Gd.no
 exact rfl
 exact rfl
 ·intro g3; try simp only [sB0, sB1, sB2, sB3, sB4, sB5, sB6, sB7, sB8] at g3
  refine G.q (Gd.yes rfl rfl) (Qt.mv rfl) rfl ?_
  refine G.q (Gd.yes rfl rfl) (Qt.gtr rfl rfl) rfl ?_
  refine G.nil (GK.seg (n := [_, _]) rfl rfl rfl (by first | exact Tks.all _ | exact Tks.skip (Tks.all _) | exact Tks.skip (Tks.skip (Tks.all _)) | exact Tks.skip (Tks.skip (Tks.skip (Tks.all _)))))
 refine G.q Gd.no (Qt.mv rfl) rfl ?_
 apply G.orb (seg := [_, _])
 exact rfl
 exact rfl
 exact rfl
 exact Gd.no
 exact rfl
 exact rfl
 ·intro g7; try simp only [sB0, sB1, sB2, sB3, sB4, sB5, sB6, sB7, sB8] at g7
  refine G.q (Gd.yes rfl rfl) (Qt.mv rfl) rfl ?_
  refine G.q (Gd.yes rfl rfl) (Qt.lss rfl rfl) rfl ?_
  refine G.nil (GK.seg (n := [_, _]) rfl rfl rfl (by first | exact Tks.all _ | exact Tks.skip (Tks.all _) | exact Tks.skip (Tks.skip (Tks.all _)) | exact Tks.skip (Tks.skip (Tks.skip (Tks.all _)))))
 refine G.q Gd.no (Qt.mv rfl) rfl ?_
 apply G.orb (seg := [_, _])
 exact rfl
 exact rfl
 exact rfl
 exact Gd.no
 exact rfl
 exact rfl
 ·intro g11; try simp only [sB0, sB1, sB2, sB3, sB4, sB5, sB6, sB7, sB8] at g11
  refine G.q (Gd.yes rfl rfl) (Qt.mv rfl) rfl ?_
  refine G.q (Gd.yes rfl rfl) (Qt.gtr rfl rfl) rfl ?_
  refine G.nil (GK.seg (n := [_, _]) rfl rfl rfl (by first | exact Tks.all _ | exact Tks.skip (Tks.all _) | exact Tks.skip (Tks.skip (Tks.all _)) | exact Tks.skip (Tks.skip (Tks.skip (Tks.all _)))))
 refine G.nil (GK.then ?_)
 refine GC.condb rfl (fun c0 => ?_) (fun c0 => ?_)
 ·try simp only [sB0, sB1, sB2, sB3, sB4, sB5, sB6, sB7, sB8] at c0
  omega
 ·try simp only [sB0, sB1, sB2, sB3, sB4, sB5, sB6, sB7, sB8] at c0
  refine GC.skip (GK.then (GC.seq (GC.region ?_)))
  refine G.q Gd.no (Qt.mv rfl) rfl ?_
  refine G.q Gd.no (Qt.sub rfl rfl (by first | exact i64_id (by omega) (by omega) | exact rfl)) rfl ?_
  refine G.q Gd.no (Qt.mv rfl) rfl ?_
  refine G.ld Gd.no (Ld.call cal38 rfl rfl (.nil _) (fun F' hF => slots_ct F' _ (by omega) (by omega)) (fun _ _ => ?_))
  dsimp only [lCa, lNa]
  refine G.q Gd.no (Qt.mul rfl rfl (by exact i64_id (by omega) (by omega))) rfl ?_
  refine G.q Gd.no (Qt.mv rfl) rfl ?_
  refine G.ld Gd.no (Ld.call cal38 rfl rfl (.nil _) (fun F' hF => slots_ct F' _ (by omega) (by omega)) (fun _ _ => ?_))
  dsimp only [lCa, lNa]
  refine G.q Gd.no (Qt.asg rfl) rfl ?_
  refine G.q Gd.no (Qt.asg rfl) rfl ?_
  refine G.q Gd.no (Qt.asg rfl) rfl ?_
  refine G.nil (GK.then (GC.ret ?_))
  refine GK.ret (rs := [.tmp 4, .tmp 5, .tmp 6]) rfl (.tmp rfl (.tmp rfl (.tmp rfl .nil))) () ?_ ?_ (.nil _)
  ·trivial
  ·rfl
end Go.Proofs.Ytbeiciinppmekaa
