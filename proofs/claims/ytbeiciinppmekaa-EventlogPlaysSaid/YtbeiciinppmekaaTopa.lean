/-
  The row of EventlogPlays; no condition beside the statement's.
-/
import Derived.Test.YtbeiciinppmekaaTb
import Derived.Test.YtbeiciinppmekaaLawd
import Derived.Test.YtbeiciinppmekaaSx15
import Derived.Test.YtbeiciinppmekaaRows
import Derived.Test.YtbeiciinppmekaaProg
namespace Go.Proofs.Ytbeiciinppmekaa
open Go Go.Sx Go.Proofs
set_option maxRecDepth 100000
set_option linter.unusedSimpArgs false
set_option linter.unusedVariables false


open Go.ChangeShapes Go.WideShapes Go.ChangeAt Go.RowKit
theorem own0 : ownKnob Try.prog.godebug = none := by kernel_rfl
theorem cl0 : closB Try.prog 155 = true := by kernel_rfl
section
variable {H : Type} {enc : TypeId × Value → H} {w : World} {base : Nat} {held : Bool}
theorem open_ev {n : Nat} {cs : List Value} {y : DataW H × List MemPlace} (h : DataW.trod enc Try.prog w base (fun _ => true) held n 40 cs = some y) : ∃ e : Ev, cs = evC e ∧ e.Wf := by
  have hl : leafB Try.prog 3 40 = some [(0, 36), (1, 37), (2, 36), (3, 5), (4, 5), (5, 5), (6, 4), (7, 5), (8, 5), (9, 5)] := by kernel_rfl
  have g := trod_leaves 3 hl h
  obtain ⟨v0, n0, y0, g0, t0⟩ := g (0, 36) (by simp)
  obtain ⟨v1, n1, y1, g1, t1⟩ := g (1, 37) (by simp)
  obtain ⟨v2, n2, y2, g2, t2⟩ := g (2, 36) (by simp)
  obtain ⟨v3, n3, y3, g3, t3⟩ := g (3, 5) (by simp)
  obtain ⟨v4, n4, y4, g4, t4⟩ := g (4, 5) (by simp)
  obtain ⟨v5, n5, y5, g5, t5⟩ := g (5, 5) (by simp)
  obtain ⟨v6, n6, y6, g6, t6⟩ := g (6, 4) (by simp)
  obtain ⟨v7, n7, y7, g7, t7⟩ := g (7, 5) (by simp)
  obtain ⟨v8, n8, y8, g8, t8⟩ := g (8, 5) (by simp)
  obtain ⟨v9, n9, y9, g9, t9⟩ := g (9, 5) (by simp)
  obtain ⟨m0, rfl, w0⟩ := leaf_int Try.underlying36 t0
  obtain ⟨m1, rfl, w1⟩ := leaf_int Try.underlying37 t1
  obtain ⟨m2, rfl, w2⟩ := leaf_int Try.underlying36 t2
  obtain ⟨m3, rfl, w3⟩ := leaf_int Try.underlying5 t3
  obtain ⟨m4, rfl, w4⟩ := leaf_int Try.underlying5 t4
  obtain ⟨m5, rfl, w5⟩ := leaf_int Try.underlying5 t5
  obtain ⟨m6, rfl⟩ := leaf_bool Try.underlying4 t6
  obtain ⟨m7, rfl, w7⟩ := leaf_int Try.underlying5 t7
  obtain ⟨m8, rfl, w8⟩ := leaf_int Try.underlying5 t8
  obtain ⟨m9, rfl, w9⟩ := leaf_int Try.underlying5 t9
  have hlen := trod_len Try.underlying40 h
  rw [show Try.prog.cellsOf 40 = 10 from by kernel_rfl] at hlen
  exact ⟨⟨m0, m1, m2, m3, m4, m5, m6, m7, m8, m9⟩, Gets.eq (vs := evC ⟨m0, m1, m2, m3, m4, m5, m6, m7, m8, m9⟩) ⟨g0, g1, g2, g3, g4, g5, g6, g7, g8, g9, trivial⟩ hlen, ⟨wf_rng w0, wf_rng w1, wf_rng w2, wf_rng w3, wf_rng w4, wf_rng w5, wf_rng w7, wf_rng w8, wf_rng w9⟩⟩
theorem open_do {n : Nat} {cs : List Value} {y : DataW H × List MemPlace} (h : DataW.trod enc Try.prog w base (fun _ => true) held n 69 cs = some y) : ∃ d : Step, cs = doC d ∧ VwF (F0 w) d.sA (vI .i64 d.seed) ∧ d.e.Wf := by
  have hl : leafB Try.prog 4 69 = some [(0, 3), (1, 3), (2, 5), (3, 22), (4, 36), (5, 37), (6, 36), (7, 5), (8, 5), (9, 5), (10, 4), (11, 5), (12, 5), (13, 5)] := by kernel_rfl
  have g := trod_leaves 4 hl h
  obtain ⟨v0, n0, y0, g0, t0⟩ := g (0, 3) (by simp)
  obtain ⟨v1, n1, y1, g1, t1⟩ := g (1, 3) (by simp)
  obtain ⟨v2, n2, y2, g2, t2⟩ := g (2, 5) (by simp)
  obtain ⟨v3, n3, y3, g3, t3⟩ := g (3, 22) (by simp)
  obtain ⟨u0, p0, z0, i0, s0⟩ := g (4, 36) (by simp)
  obtain ⟨u1, p1, z1, i1, s1⟩ := g (5, 37) (by simp)
  obtain ⟨u2, p2, z2, i2, s2⟩ := g (6, 36) (by simp)
  obtain ⟨u3, p3, z3, i3, s3⟩ := g (7, 5) (by simp)
  obtain ⟨u4, p4, z4, i4, s4⟩ := g (8, 5) (by simp)
  obtain ⟨u5, p5, z5, i5, s5⟩ := g (9, 5) (by simp)
  obtain ⟨u6, p6, z6, i6, s6⟩ := g (10, 4) (by simp)
  obtain ⟨u7, p7, z7, i7, s7⟩ := g (11, 5) (by simp)
  obtain ⟨u8, p8, z8, i8, s8⟩ := g (12, 5) (by simp)
  obtain ⟨u9, p9, z9, i9, s9⟩ := g (13, 5) (by simp)
  obtain ⟨a0, rfl, _⟩ := leaf_int Try.underlying3 t0
  obtain ⟨a1, rfl, _⟩ := leaf_int Try.underlying3 t1
  obtain ⟨a2, rfl, _⟩ := leaf_int Try.underlying5 t2
  obtain ⟨A, sd, c, rfl, hA, _⟩ := leaf_ints Try.underlying22 Try.underlying3 (by kernel_rfl) t3
  obtain ⟨m0, rfl, w0⟩ := leaf_int Try.underlying36 s0
  obtain ⟨m1, rfl, w1⟩ := leaf_int Try.underlying37 s1
  obtain ⟨m2, rfl, w2⟩ := leaf_int Try.underlying36 s2
  obtain ⟨m3, rfl, w3⟩ := leaf_int Try.underlying5 s3
  obtain ⟨m4, rfl, w4⟩ := leaf_int Try.underlying5 s4
  obtain ⟨m5, rfl, w5⟩ := leaf_int Try.underlying5 s5
  obtain ⟨m6, rfl⟩ := leaf_bool Try.underlying4 s6
  obtain ⟨m7, rfl, w7⟩ := leaf_int Try.underlying5 s7
  obtain ⟨m8, rfl, w8⟩ := leaf_int Try.underlying5 s8
  obtain ⟨m9, rfl, w9⟩ := leaf_int Try.underlying5 s9
  have hlen := trod_len Try.underlying69 h
  rw [show Try.prog.cellsOf 69 = 14 from by kernel_rfl] at hlen
  exact ⟨⟨a0, a1, a2, sd, A, c, ⟨m0, m1, m2, m3, m4, m5, m6, m7, m8, m9⟩⟩, Gets.eq (vs := doC ⟨a0, a1, a2, sd, A, c, ⟨m0, m1, m2, m3, m4, m5, m6, m7, m8, m9⟩⟩) ⟨g0, g1, g2, g3, i0, i1, i2, i3, i4, i5, i6, i7, i8, i9, trivial⟩ hlen, hA, ⟨wf_rng w0, wf_rng w1, wf_rng w2, wf_rng w3, wf_rng w4, wf_rng w5, wf_rng w7, wf_rng w8, wf_rng w9⟩⟩
end
theorem plays_lifted (os : Os) (started : os.Started) (H : Type) (enc : TypeId × Value → H) :
    ReturnsInHanded {} Try.checked os 5 .any (Rows.eventlogPlaysSpec.pre6 enc Try.prog Try.f5 Rows.eventlogPlaysRow.domain false) (Rows.eventlogPlaysSpec.post enc Try.prog Try.f5 false true false false) := by
  refine returnsInHanded_of_change (C := Try.checked) own0 started (by kernel_rfl) Try.func5
    (ChangeSpec.witness6 (enc := enc) (C := Try.checked) false ⟨#[], #[.int .i64 0, .int .i64 0, .bool false, .slice none 0 0], []⟩ 8 (by kernel_rfl) (by kernel_rfl) (by kernel_rfl) (by kernel_rfl)) ?_
  intro W base args ds gs before hval0 hW hcnd _
  have hval : ∀ (j : Nat) t v, Try.f5.params[j]? = some t → args[j]? = some v → Value.okWide Try.prog W .any base t v := hval0
  have hW' := hW
  obtain ⟨p, q, hA0, hV, rfl, hfz, hnd⟩ := hW
  have hA : DataW.TrodAll enc Try.prog W 0 (fun _ => true) true Try.f5.params.toList args.toList ds p := hA0
  rw [Try.params5] at hA hval
  obtain ⟨v0, v1, v2, v3, d0, d1, d2, d3, p0, p1, p2, p3, rfl, rfl, rfl, h0, h1, h2, h3⟩ := trodAll_four hA
  obtain ⟨rfl, rfl⟩ := trodVars_none hV
  obtain ⟨sectors, rfl, rfl, rfl, w0⟩ := open_int Try.underlying3 (hval 0 _ v0 rfl rfl) h0
  obtain ⟨size, rfl, rfl, rfl, w1⟩ := open_int Try.underlying3 (hval 1 _ v1 rfl rfl) h1
  obtain ⟨over, rfl, rfl, rfl⟩ := open_bool Try.underlying4 (hval 2 _ v2 rfl rfl) h2
  obtain ⟨sa, sl, sc, rfl⟩ := okWide_slice Try.underlying66 (hval 3 _ v3 rfl rfl)
  obtain ⟨fuel, h3⟩ := h3
  obtain ⟨A, l, c, e, hAl, hlc, hcm, hQ⟩ := leaf_rows (f := doC) (Q := fun d => VwF (F0 W) d.sA (vI .i64 d.seed) ∧ d.e.Wf) Try.underlying66 (by kernel_rfl) doC_len (fun n cs y h => open_do h) h3
  rw [e] at hW' ⊢
  refine (plays_ct (F0 W) sectors size over A c l hAl (fun d hd => (hQ d hd).1) (fun d hd => (hQ d hd).2) W (St.start W)).mono fun e W' hE => ?_
  obtain ⟨_, _, rfl, hs⟩ := hE
  exact ⟨_, rfl, post_true hW' rfl cl0 (by decide) hs.grew hs.os hs.output (fun _ _ _ => trodAll_mk1 (shut_bool Try.underlying4 _)) rfl rfl (ok_one (by kernel_rfl) rfl (okWide_bool_mk Try.underlying4 _))⟩
theorem plays_holds : Rows.EventlogPlaysSaid :=
  OpenClaim.holds_of_wide 5 Try.f5 rfl rfl rfl rfl rfl rfl rfl ⟨rfl, rfl, rfl, rfl, rfl⟩ rfl rfl rfl rfl rfl (by kernel_rfl) Try.func5 (by kernel_rfl)
    (of_decide_eq_true (by kernel_rfl)) (by unfold Func.isWrapper; first | (rw [if_pos (by decide +kernel)]; kernel_rfl) | (rw [if_neg (by decide +kernel)]; exact ⟨rfl, rfl⟩))
    (fun os started H enc _ => plays_lifted os started H enc)
#print axioms plays_holds

end Go.Proofs.Ytbeiciinppmekaa
