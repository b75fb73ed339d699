/-
  The row of EventlogAtomic; no condition beside the statement's.
-/
import Derived.Test.YtbeiciinppmekaaTb
import Derived.Test.YtbeiciinppmekaaLawg
import Derived.Test.YtbeiciinppmekaaRowk
import Derived.Test.YtbeiciinppmekaaProg
namespace Go.Proofs.Ytbeiciinppmekaa
open Go Go.Sx Go.Proofs
set_option maxRecDepth 100000
set_option linter.unusedSimpArgs false
set_option linter.unusedVariables false
open Go.ChangeShapes Go.WideShapes Go.ChangeAt Go.RowKit
theorem atomic_lifted (os : Os) (started : os.Started) (H : Type) (enc : TypeId × Value → H) :
    ReturnsInHanded {} Try.checked os 3 .any (Rows.eventlogAtomicSpec.pre6 enc Try.prog Try.f3 Rows.eventlogAtomicRow.domain false) (Rows.eventlogAtomicSpec.post enc Try.prog Try.f3 false true false false) := by
  refine returnsInHanded_of_change (C := Try.checked) own0 started (by kernel_rfl) Try.func3
    (ChangeSpec.witness6 (enc := enc) (C := Try.checked) false ⟨#[], #[.int .i64 0, .int .i64 0, .bool false, .slice none 0 0, .int .i64 0, .int .i64 0, .int .u8 0], []⟩ 8 (by kernel_rfl) (by kernel_rfl) (by kernel_rfl) (by kernel_rfl)) ?_
  intro W base args ds gs before hval0 hW hcnd _
  have hval : ∀ (j : Nat) t v, Try.f3.params[j]? = some t → args[j]? = some v → Value.okWide Try.prog W .any base t v := hval0
  have hW' := hW
  obtain ⟨p, q, hA0, hV, rfl, hfz, hnd⟩ := hW
  have hA : DataW.TrodAll enc Try.prog W 0 (fun _ => true) true Try.f3.params.toList args.toList ds p := hA0
  rw [Try.params3] at hA hval
  obtain ⟨v0, r0, d0, s0, p0, q0, e0, rfl, rfl, h0, hA⟩ := trodAll_cons hA
  obtain ⟨v1, r1, d1, s1, p1, q1, rfl, rfl, rfl, h1, hA⟩ := trodAll_cons hA
  obtain ⟨v2, r2, d2, s2, p2, q2, rfl, rfl, rfl, h2, hA⟩ := trodAll_cons hA
  obtain ⟨v3, r3, d3, s3, p3, q3, rfl, rfl, rfl, h3, hA⟩ := trodAll_cons hA
  obtain ⟨v4, r4, d4, s4, p4, q4, rfl, rfl, rfl, h4, hA⟩ := trodAll_cons hA
  obtain ⟨v5, r5, d5, s5, p5, q5, rfl, rfl, rfl, h5, hA⟩ := trodAll_cons hA
  obtain ⟨v6, r6, d6, s6, p6, q6, rfl, rfl, rfl, h6, hA⟩ := trodAll_cons hA
  obtain ⟨rfl, rfl, rfl⟩ := trodAll_nil hA
  obtain rfl := arr_eq e0
  obtain ⟨rfl, rfl⟩ := trodVars_none hV
  obtain ⟨sectors, rfl, rfl, rfl, w0⟩ := open_int Try.underlying3 (hval 0 _ v0 rfl rfl) h0
  obtain ⟨size, rfl, rfl, rfl, w1⟩ := open_int Try.underlying3 (hval 1 _ v1 rfl rfl) h1
  obtain ⟨over, rfl, rfl, rfl⟩ := open_bool Try.underlying4 (hval 2 _ v2 rfl rfl) h2
  obtain ⟨Al, sl3, cl, rfl⟩ := okWide_slice Try.underlying22 (hval 3 _ v3 rfl rfl)
  obtain ⟨fuel3, h3⟩ := h3
  obtain ⟨Al_, l, cl_, e3, hAl, hll, hcl, hwl⟩ := leaf_ints Try.underlying22 Try.underlying3 (by kernel_rfl) h3
  injection e3 with ea3 el3 ec3
  subst ea3
  subst el3
  subst ec3
  obtain ⟨n, rfl, rfl, rfl, w4⟩ := open_int Try.underlying3 (hval 4 _ v4 rfl rfl) h4
  obtain ⟨at_, rfl, rfl, rfl, w5⟩ := open_int Try.underlying3 (hval 5 _ v5 rfl rfl) h5
  obtain ⟨torn, rfl, rfl, rfl, w6⟩ := open_int Try.underlying5 (hval 6 _ v6 rfl rfl) h6
  refine (atomic_ct (F0 W) sectors size over Al l cl n at_ torn hAl (wf_rng w6) W (St.start W)).mono fun e W' hE => ?_
  obtain ⟨_, _, rfl, hs⟩ := hE
  exact ⟨_, rfl, post_true hW' rfl cl0 (by decide) hs.grew hs.os hs.output (fun _ _ _ => trodAll_mk1 (shut_bool Try.underlying4 _)) rfl rfl (ok_one (by kernel_rfl) rfl (okWide_bool_mk Try.underlying4 _))⟩
theorem atomic_holds : Rows.EventlogAtomicSaid :=
  OpenClaim.holds_of_wide 3 Try.f3 rfl rfl rfl rfl rfl rfl rfl ⟨rfl, rfl, rfl, rfl, rfl⟩ rfl rfl rfl rfl rfl (by kernel_rfl) Try.func3 (by kernel_rfl)
    (of_decide_eq_true (by kernel_rfl)) (by unfold Func.isWrapper; first | (rw [if_pos (by decide +kernel)]; kernel_rfl) | (rw [if_neg (by decide +kernel)]; exact ⟨rfl, rfl⟩))
    (fun os started H enc _ => atomic_lifted os started H enc)
#print axioms atomic_holds
end Go.Proofs.Ytbeiciinppmekaa
