/- For all recipes, given or made, and all lists, Validate, Batches and Make answer what the reference answers, and the law answers true. No condition. -/
import Derived.Test.YtoeghejbgibioaaRows
import Derived.Test.YtoeghejbgibioaaPost
import Derived.Test.YtoeghejbgibioaaOpY
import Derived.Test.YtoeghejbgibioaaH6
import Derived.WalkKit
import Derived.ProofKit
import Derived.OpenShut
namespace Go.Proofs.Ytoeghejbgibioaa
open Go.ChangeShapes Go.WideShapes Go.ChangeAt Go.RowKit Go.ChangeMaps
set_option linter.unusedVariables false

theorem own_YieldMake : ownKnob Try.prog.godebug = none := by kernel_rfl

set_option maxRecDepth 100000 in
theorem lifted_YieldMake (os : Os) (started : os.Started) (H : Type) (enc : TypeId × Value → H) :
    ReturnsInHanded {} Try.checked os 8 .any (Rows.yieldMakeSpec.pre6 enc Try.prog Try.f8 Rows.yieldMakeRow.domain false) (Rows.yieldMakeSpec.post enc Try.prog Try.f8 false true false false) := by
  refine returnsInHanded_of_change (C := Try.checked) own_YieldMake started (by kernel_rfl) Try.func8
    (ChangeSpec.witness6 (enc := enc) (C := Try.checked) false ⟨#[], #[.slice none 0 0, .slice none 0 0, .agg #[.int .i64 0, .slice none 0 0, .slice none 0 0, .slice none 0 0], .slice none 0 0, .int .i64 0, .int .i64 0], []⟩ 8 (by kernel_rfl) (by kernel_rfl) (by kernel_rfl) (by kernel_rfl)) ?_
  intro W base args ds gs before hval0 hW hcnd _
  have hval : ∀ (j : Nat) t v, Try.f8.params[j]? = some t → args[j]? = some v → Value.okWide Try.prog W .any base t v := hval0
  have hW' := hW
  obtain ⟨p, q, hA0, hV, rfl, hfz, hnd⟩ := hW
  have hA : DataW.TrodAll enc Try.prog W 0 (fun _ => true) true Try.f8.params.toList args.toList ds p := hA0
  have hA1 := hA
  rw [Try.params8] at hA hval
  obtain ⟨v0, vs0, d0, ds0, p0, q0, hargs, rfl, rfl, h0, r0_⟩ := trodAll_cons hA
  obtain ⟨v1, vs1, d1, ds1, p1, q1, rfl, rfl, rfl, h1, r1_⟩ := trodAll_cons r0_
  obtain ⟨v2, vs2, d2, ds2, p2, q2, rfl, rfl, rfl, h2, r2_⟩ := trodAll_cons r1_
  obtain ⟨v3, vs3, d3, ds3, p3, q3, rfl, rfl, rfl, h3, r3_⟩ := trodAll_cons r2_
  obtain ⟨v4, vs4, d4, ds4, p4, q4, rfl, rfl, rfl, h4, r4_⟩ := trodAll_cons r3_
  obtain ⟨v5, vs5, d5, ds5, p5, q5, rfl, rfl, rfl, h5, r5_⟩ := trodAll_cons r4_
  obtain ⟨rfl, rfl, rfl⟩ := trodAll_nil r5_
  obtain rfl : args = #[v0, v1, v2, v3, v4, v5] := by cases args; simp_all
  obtain ⟨rfl, rfl⟩ := trodVars_none hV
  obtain ⟨x0, D0, k0⟩ := op_intl (hval 0 22 v0 rfl rfl) h0
  obtain ⟨x1, D1, k1⟩ := op_intl (hval 1 22 v1 rfl rfl) h1
  obtain ⟨x2, D2, k2⟩ := op_recipe (hval 2 25 v2 rfl rfl) h2
  obtain ⟨x3, D3, k3⟩ := op_needs (hval 3 23 v3 rfl rfl) h3
  obtain ⟨a4, rfl, _, _, w4⟩ := open_int Try.underlying3 (hval 4 3 v4 rfl rfl) h4
  obtain ⟨a5, rfl, _, _, w5⟩ := open_int Try.underlying3 (hval 5 3 v5 rfl rfl) h5
  refine (law_run (lawMake_t x0 x1 x2 x3 a4 a5 k0 k1 (by obtain ⟨q1, q2, q3, q4, q5⟩ := k2; unfold maxLen at q1 q2 q4 q5; exact ⟨by omega, by omega, q3, fun y hy => by have := q4 y hy; omega, fun y hy => by have := q5 y hy; omega⟩) (by have := k3.1; unfold maxLen at this; omega) (fun y hy => by have := k3.2 y hy; unfold maxLen at this; omega)) W [v0, v1, v2, v3, .int .i64 a4, .int .i64 a5] ⟨D0, D1, D2, D3, parI _ _ _, parI _ _ _, trivial⟩).mono fun e W' ⟨he, hg⟩ => ?_
  subst he
  exact ⟨_, rfl, law_post laid_ (by kernel_rfl) Try.underlying4 rfl hW' hA1 (by simp) rfl rfl rfl hg⟩

theorem over_YieldMake : Rows.yieldMakeRow.holds Try.pinned (OpenSpec.ofChange Rows.yieldMakeSpec) :=
  OpenClaim.holds_of_wide 8 Try.f8 rfl rfl rfl rfl rfl rfl rfl ⟨rfl, rfl, rfl, rfl, rfl⟩ rfl rfl rfl rfl rfl (by kernel_rfl) Try.func8 (by kernel_rfl)
    (of_decide_eq_true (by kernel_rfl)) (by unfold Func.isWrapper; first | (rw [if_pos (by decide +kernel)]; kernel_rfl) | (rw [if_neg (by decide +kernel)]; exact ⟨rfl, rfl⟩))
    (fun os started H enc _ => lifted_YieldMake os started H enc)

/-- The statement. -/
theorem yieldMake_holds : Rows.YieldMakeSaid :=
  over_YieldMake
end Go.Proofs.Ytoeghejbgibioaa
