/- For all made lists and all windows, what Settle matches keeps the terms, uses nothing twice and reaches the greatest quantity that paths reach, and the law answers true. No condition. -/
import Derived.Test.YtoeghejbgibioaaRows
import Derived.Test.YtoeghejbgibioaaPost
import Derived.Test.YtoeghejbgibioaaOpY
import Derived.Test.YtoeghejbgibioaaMC
import Derived.WalkKit
import Derived.ProofKit
import Derived.OpenShut
namespace Go.Proofs.Ytoeghejbgibioaa
open Go.ChangeShapes Go.WideShapes Go.ChangeAt Go.RowKit Go.ChangeMaps
set_option linter.unusedVariables false

theorem own_YieldSettleMost : ownKnob Try.prog.godebug = none := by kernel_rfl

set_option maxRecDepth 100000 in
theorem lifted_YieldSettleMost (os : Os) (started : os.Started) (H : Type) (enc : TypeId × Value → H) :
    ReturnsInHanded {} Try.checked os 7 .any (Rows.yieldSettleMostSpec.pre6 enc Try.prog Try.f7 Rows.yieldSettleMostRow.domain false) (Rows.yieldSettleMostSpec.post enc Try.prog Try.f7 false true false false) := by
  refine returnsInHanded_of_change (C := Try.checked) own_YieldSettleMost started (by kernel_rfl) Try.func7
    (ChangeSpec.witness6 (enc := enc) (C := Try.checked) false ⟨#[], #[.slice none 0 0, .slice none 0 0, .int .i64 0, .int .i64 0], []⟩ 8 (by kernel_rfl) (by kernel_rfl) (by kernel_rfl) (by kernel_rfl)) ?_
  intro W base args ds gs before hval0 hW hcnd _
  have hval : ∀ (j : Nat) t v, Try.f7.params[j]? = some t → args[j]? = some v → Value.okWide Try.prog W .any base t v := hval0
  have hW' := hW
  obtain ⟨p, q, hA0, hV, rfl, hfz, hnd⟩ := hW
  have hA : DataW.TrodAll enc Try.prog W 0 (fun _ => true) true Try.f7.params.toList args.toList ds p := hA0
  have hA1 := hA
  rw [Try.params7] at hA hval
  obtain ⟨v0, vs0, d0, ds0, p0, q0, hargs, rfl, rfl, h0, r0_⟩ := trodAll_cons hA
  obtain ⟨v1, vs1, d1, ds1, p1, q1, rfl, rfl, rfl, h1, r1_⟩ := trodAll_cons r0_
  obtain ⟨v2, vs2, d2, ds2, p2, q2, rfl, rfl, rfl, h2, r2_⟩ := trodAll_cons r1_
  obtain ⟨v3, vs3, d3, ds3, p3, q3, rfl, rfl, rfl, h3, r3_⟩ := trodAll_cons r2_
  obtain ⟨rfl, rfl, rfl⟩ := trodAll_nil r3_
  obtain rfl : args = #[v0, v1, v2, v3] := by cases args; simp_all
  obtain ⟨rfl, rfl⟩ := trodVars_none hV
  obtain ⟨x0, D0, k0⟩ := op_intl (hval 0 22 v0 rfl rfl) h0
  obtain ⟨x1, D1, k1⟩ := op_intl (hval 1 22 v1 rfl rfl) h1
  obtain ⟨a2, rfl, _, _, w2⟩ := open_int Try.underlying3 (hval 2 3 v2 rfl rfl) h2
  obtain ⟨a3, rfl, _, _, w3⟩ := open_int Try.underlying3 (hval 3 3 v3 rfl rfl) h3
  refine (law_run (lawMost_t x0 x1 a2 a3 k0 k1) W [v0, v1, .int .i64 a2, .int .i64 a3] ⟨D0, D1, parI _ _ _, parI _ _ _, trivial⟩).mono fun e W' ⟨he, hg⟩ => ?_
  subst he
  exact ⟨_, rfl, law_post laid_ (by kernel_rfl) Try.underlying4 rfl hW' hA1 (by simp) rfl rfl rfl hg⟩

theorem over_YieldSettleMost : Rows.yieldSettleMostRow.holds Try.pinned (OpenSpec.ofChange Rows.yieldSettleMostSpec) :=
  OpenClaim.holds_of_wide 7 Try.f7 rfl rfl rfl rfl rfl rfl rfl ⟨rfl, rfl, rfl, rfl, rfl⟩ rfl rfl rfl rfl rfl (by kernel_rfl) Try.func7 (by kernel_rfl)
    (of_decide_eq_true (by kernel_rfl)) (by unfold Func.isWrapper; first | (rw [if_pos (by decide +kernel)]; kernel_rfl) | (rw [if_neg (by decide +kernel)]; exact ⟨rfl, rfl⟩))
    (fun os started H enc _ => lifted_YieldSettleMost os started H enc)

/-- The statement. -/
theorem yieldSettleMost_holds : Rows.YieldSettleMostSaid :=
  over_YieldSettleMost
end Go.Proofs.Ytoeghejbgibioaa
