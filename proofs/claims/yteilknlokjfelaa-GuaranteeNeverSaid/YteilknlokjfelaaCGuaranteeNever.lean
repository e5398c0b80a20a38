/- For every row and all steps, given or drawn, the reservations never exceed the reference amount, whatever step is carried out, and the law answers true. No condition. -/
import Derived.Test.YteilknlokjfelaaRows
import Derived.Test.YteilknlokjfelaaPost
import Derived.Test.YteilknlokjfelaaOp23
import Derived.Test.YteilknlokjfelaaL23
import Derived.WalkKit
import Derived.ProofKit
import Derived.OpenShut
namespace Go.Proofs.Yteilknlokjfelaa
open Go.ChangeShapes Go.WideShapes Go.ChangeAt Go.RowKit Go.ChangeMaps
set_option linter.unusedVariables false

theorem own_GuaranteeNever : ownKnob Try.prog.godebug = none := by kernel_rfl

set_option maxRecDepth 100000 in
theorem lifted_GuaranteeNever (os : Os) (started : os.Started) (H : Type) (enc : TypeId × Value → H) :
    ReturnsInHanded {} Try.checked os 9 .any (Rows.guaranteeNeverSpec.pre6 enc Try.prog Try.f9 Rows.guaranteeNeverRow.domain false) (Rows.guaranteeNeverSpec.post enc Try.prog Try.f9 false true false false) := by
  refine returnsInHanded_of_change (C := Try.checked) own_GuaranteeNever started (by kernel_rfl) Try.func9
    (ChangeSpec.witness6 (enc := enc) (C := Try.checked) false ⟨#[], #[.slice none 0 0, .slice none 0 0, .slice none 0 0, .bool false], []⟩ 8 (by kernel_rfl) (by kernel_rfl) (by kernel_rfl) (by kernel_rfl)) ?_
  intro W base args ds gs before hval0 hW hcnd _
  have hval : ∀ (j : Nat) t v, Try.f9.params[j]? = some t → args[j]? = some v → Value.okWide Try.prog W .any base t v := hval0
  have hW' := hW
  obtain ⟨p, q, hA0, hV, rfl, hfz, hnd⟩ := hW
  have hA : DataW.TrodAll enc Try.prog W 0 (fun _ => true) true Try.f9.params.toList args.toList ds p := hA0
  have hA1 := hA
  rw [Try.params9] at hA hval
  obtain ⟨v0, vs0, d0, ds0, p0, q0, hargs, rfl, rfl, h0, r0_⟩ := trodAll_cons hA
  obtain ⟨v1, vs1, d1, ds1, p1, q1, rfl, rfl, rfl, h1, r1_⟩ := trodAll_cons r0_
  obtain ⟨v2, vs2, d2, ds2, p2, q2, rfl, rfl, rfl, h2, r2_⟩ := trodAll_cons r1_
  obtain ⟨v3, vs3, d3, ds3, p3, q3, rfl, rfl, rfl, h3, r3_⟩ := trodAll_cons r2_
  obtain ⟨rfl, rfl, rfl⟩ := trodAll_nil r3_
  obtain rfl : args = #[v0, v1, v2, v3] := by cases args; simp_all
  obtain ⟨rfl, rfl⟩ := trodVars_none hV
  obtain ⟨x0, D0, k0⟩ := op_intl (hval 0 22 v0 rfl rfl) h0
  obtain ⟨x1, D1, k1⟩ := op_intl (hval 1 22 v1 rfl rfl) h1
  obtain ⟨x2, D2, k2⟩ := op_steps (hval 2 45 v2 rfl rfl) h2
  obtain ⟨b3, rfl, _, _⟩ := open_bool Try.underlying4 (hval 3 4 v3 rfl rfl) h3
  refine (law_run (lawNever_t x0 x1 x2 b3 k0 k1) W [v0, v1, v2, .bool b3] ⟨D0, D1, D2, parB _ _, trivial⟩).mono fun e W' ⟨he, hg⟩ => ?_
  subst he
  exact ⟨_, rfl, law_post laid_ (by kernel_rfl) Try.underlying4 rfl hW' hA1 (by simp) rfl rfl rfl hg⟩

theorem over_GuaranteeNever : Rows.guaranteeNeverRow.holds Try.pinned (OpenSpec.ofChange Rows.guaranteeNeverSpec) :=
  OpenClaim.holds_of_wide 9 Try.f9 rfl rfl rfl rfl rfl rfl rfl ⟨rfl, rfl, rfl, rfl, rfl⟩ rfl rfl rfl rfl rfl (by kernel_rfl) Try.func9 (by kernel_rfl)
    (of_decide_eq_true (by kernel_rfl)) (by unfold Func.isWrapper; first | (rw [if_pos (by decide +kernel)]; kernel_rfl) | (rw [if_neg (by decide +kernel)]; exact ⟨rfl, rfl⟩))
    (fun os started H enc _ => lifted_GuaranteeNever os started H enc)

/-- The statement. -/
theorem guaranteeNever_holds : Rows.GuaranteeNeverSaid :=
  over_GuaranteeNever
end Go.Proofs.Yteilknlokjfelaa
