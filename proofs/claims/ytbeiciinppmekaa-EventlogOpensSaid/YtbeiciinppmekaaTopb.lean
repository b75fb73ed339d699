/-
  The row of EventlogOpens; no condition beside the statement's.
-/
import Derived.Test.YtbeiciinppmekaaTb
import Derived.Test.YtbeiciinppmekaaLawe
import Derived.Test.YtbeiciinppmekaaRowk
import Derived.Test.YtbeiciinppmekaaProg
namespace Go.Proofs.Ytbeiciinppmekaa
open Go Go.Sx Go.Proofs
set_option maxRecDepth 100000
set_option linter.unusedSimpArgs false
set_option linter.unusedVariables false
open Go.ChangeShapes Go.WideShapes Go.ChangeAt Go.RowKit
theorem opens_lifted (os : Os) (started : os.Started) (H : Type) (enc : TypeId × Value → H) :
    ReturnsInHanded {} Try.checked os 4 .any (Rows.eventlogOpensSpec.pre6 enc Try.prog Try.f4 Rows.eventlogOpensRow.domain false) (Rows.eventlogOpensSpec.post enc Try.prog Try.f4 false true false false) := by
  refine returnsInHanded_of_change (C := Try.checked) own0 started (by kernel_rfl) Try.func4
    (ChangeSpec.witness6 (enc := enc) (C := Try.checked) false ⟨#[], #[.slice none 0 0, .int .i64 0, .int .i64 0, .int .i64 0, .bool false, .slice none 0 0], []⟩ 8 (by kernel_rfl) (by kernel_rfl) (by kernel_rfl) (by kernel_rfl)) ?_
  intro W base args ds gs before hval0 hW hcnd _
  have hval : ∀ (j : Nat) t v, Try.f4.params[j]? = some t → args[j]? = some v → Value.okWide Try.prog W .any base t v := hval0
  have hW' := hW
  obtain ⟨p, q, hA0, hV, rfl, hfz, hnd⟩ := hW
  have hA : DataW.TrodAll enc Try.prog W 0 (fun _ => true) true Try.f4.params.toList args.toList ds p := hA0
  rw [Try.params4] at hA hval
  obtain ⟨v0, r0, d0, s0, p0, q0, e0, rfl, rfl, h0, hA⟩ := trodAll_cons hA
  obtain ⟨v1, r1, d1, s1, p1, q1, rfl, rfl, rfl, h1, hA⟩ := trodAll_cons hA
  obtain ⟨v2, r2, d2, s2, p2, q2, rfl, rfl, rfl, h2, hA⟩ := trodAll_cons hA
  obtain ⟨v3, r3, d3, s3, p3, q3, rfl, rfl, rfl, h3, hA⟩ := trodAll_cons hA
  obtain ⟨v4, r4, d4, s4, p4, q4, rfl, rfl, rfl, h4, hA⟩ := trodAll_cons hA
  obtain ⟨v5, r5, d5, s5, p5, q5, rfl, rfl, rfl, h5, hA⟩ := trodAll_cons hA
  obtain ⟨rfl, rfl, rfl⟩ := trodAll_nil hA
  obtain rfl := arr_eq e0
  obtain ⟨rfl, rfl⟩ := trodVars_none hV
  obtain ⟨Ab, sl0, cb, rfl⟩ := okWide_slice Try.underlying53 (hval 0 _ v0 rfl rfl)
  obtain ⟨fuel0, h0⟩ := h0
  obtain ⟨Ab_, b, cb_, e0, hAb, hlb, hcb, hwb⟩ := leaf_ints Try.underlying53 Try.underlying5 (by kernel_rfl) h0
  injection e0 with ea0 el0 ec0
  subst ea0
  subst el0
  subst ec0
  obtain ⟨first, rfl, rfl, rfl, w1⟩ := open_int Try.underlying3 (hval 1 _ v1 rfl rfl) h1
  obtain ⟨sectors, rfl, rfl, rfl, w2⟩ := open_int Try.underlying3 (hval 2 _ v2 rfl rfl) h2
  obtain ⟨size, rfl, rfl, rfl, w3⟩ := open_int Try.underlying3 (hval 3 _ v3 rfl rfl) h3
  obtain ⟨over, rfl, rfl, rfl⟩ := open_bool Try.underlying4 (hval 4 _ v4 rfl rfl) h4
  obtain ⟨Al, sl5, cl, rfl⟩ := okWide_slice Try.underlying22 (hval 5 _ v5 rfl rfl)
  obtain ⟨fuel5, h5⟩ := h5
  obtain ⟨Al_, l, cl_, e5, hAl, hll, hcl, hwl⟩ := leaf_ints Try.underlying22 Try.underlying3 (by kernel_rfl) h5
  injection e5 with ea5 el5 ec5
  subst ea5
  subst el5
  subst ec5
  have hf : -9223372036854775808 ≤ first ∧ first ≤ 9223372036854775807 := wf_rng w1
  have hct : Ct Try.prog (F0 W) 4 [.slice Ab b.length cb, .int .i64 first, .int .i64 sectors, .int .i64 size, .bool over, .slice Al l.length cl] [] (S := Unit) (fun _ => True) (fun _ => .bool true) (fun _ => []) := by
    cases hno : noRoom (3 + sectors % 3).toNat (first % 4 - 1) (1 + sectors % 3 + first.tdiv 4 % 3) with
    | true => exact opensNo_ct (F0 W) Ab b cb hAb hlb first sectors size over Al l cl hAl hf.1 hf.2 hno
    | false => exact opensUp_ct (F0 W) Ab b cb hAb hlb first sectors size over Al l cl hAl hf.1 hf.2 hno
  refine (hct W (St.start W)).mono fun e W' hE => ?_
  obtain ⟨_, _, rfl, hs⟩ := hE
  exact ⟨_, rfl, post_true hW' rfl cl0 (by decide) hs.grew hs.os hs.output (fun _ _ _ => trodAll_mk1 (shut_bool Try.underlying4 _)) rfl rfl (ok_one (by kernel_rfl) rfl (okWide_bool_mk Try.underlying4 _))⟩
theorem opens_holds : Rows.EventlogOpensSaid :=
  OpenClaim.holds_of_wide 4 Try.f4 rfl rfl rfl rfl rfl rfl rfl ⟨rfl, rfl, rfl, rfl, rfl⟩ rfl rfl rfl rfl rfl (by kernel_rfl) Try.func4 (by kernel_rfl)
    (of_decide_eq_true (by kernel_rfl)) (by unfold Func.isWrapper; first | (rw [if_pos (by decide +kernel)]; kernel_rfl) | (rw [if_neg (by decide +kernel)]; exact ⟨rfl, rfl⟩))
    (fun os started H enc _ => opens_lifted os started H enc)
#print axioms opens_holds
end Go.Proofs.Ytbeiciinppmekaa
